/- One part of the proof: FSweep, XField, FHall, FHall2, FHall3, FHall4, FMore2, FWrite, XNil, FWrite2, FWrite3, FWrite4, FWrite5, FWrite6, FSwp, FHeed1, FHeed2, FHeed3. No condition beyond those that each theorem names. -/
import Derived.Test.YthilcgjhhhmgoaaGreatS2
set_option linter.unusedVariables false
set_option linter.unusedSimpArgs false
set_option linter.unusedSectionVars false
set_option maxHeartbeats 1000000
namespace Go.Proofs.YthilcgjhhhmgoaaGreat.X
def EA (t:TW) (vv:Value) (us:Nat → Value) (vs:List Entry):Prop:=∀ i x,vs[i]? = some x → ∃ b o cap,vv = .slice (some ⟨b,o,none⟩) vs.length cap ∧ vs.length ≤ cap ∧ At t.w b (o + i * 4) (us i :: presC x.told) ∧ b < t.w.heap.size ∧ t.own b = .fz ∧ Sl t kSess (us i) x.sessions
theorem EA.step {t t' : TW} {vv:Value} {us:Nat → Value} {vs:List Entry} {T:Tag → Prop} (h:EA t vv us vs) (s:Step T t t') (hT:¬ T .fz):EA t' vv us vs:=fun i x hi=>by
 obtain ⟨b,o,cap,h1,h2,h3,h4,h5,h6⟩:=h i x hi
 obtain ⟨k1,k2⟩:=s.keep b h4 (by rw [h5]; exact hT)
 exact ⟨b,o,cap,h1,h2,h3.of_block k2,Nat.lt_of_lt_of_le h4 s.size,k1.trans h5,h6.step s hT⟩
theorem EA.n {t t' : TW} {vv:Value} {us:Nat → Value} {vs:List Entry} {T:Tag → Prop} (h:EA t vv us vs) (s:Step T t t') (hT:¬ T .fz:=by first | exact id | nofun | (rintro (h | h) <;> cases h) | (rintro (h | h | h) <;> cases h)):EA t' vv us vs:=h.step s hT
theorem Sl.ea {t:TW} {vv:Value} {vs:List Entry} (h:Sl t kEntry vv vs):∃ us,EA t vv us vs:=by
 have key:∀ i,∃ u,∀ x,vs[i]? = some x → ∃ b o cap,vv = .slice (some ⟨b,o,none⟩) vs.length cap ∧ vs.length ≤ cap ∧ At t.w b (o + i * 4) (u :: presC x.told) ∧ b < t.w.heap.size ∧ t.own b = .fz ∧ Sl t kSess u x.sessions:=fun i=>by
  cases hq:vs[i]? with
  | none=>exact ⟨.nilFunc,fun x h=>by cases h⟩
  | some x=>
   obtain ⟨b,o,cap,c,h1,h2,h3,h4,h5,h6⟩:=h.at_ hq
   obtain ⟨u,rfl,hu⟩:=h3
   refine ⟨u,fun y hy=>?_⟩
   obtain rfl:=Option.some.inj hy
   exact ⟨b,o,cap,h1,h2,h4,h5,h6,hu⟩
 exact ⟨fun i=>(key i).choose,fun i x hi=>(key i).choose_spec x hi⟩
theorem omap_All (kv vv:Value) (t:TW):Cal 106 [.agg #[kv,vv]] t No (fun r t' => ∃ b1,r = .func (.func 138) #[] #[.pointer (some ⟨b1,0,none⟩)] ∧ Bk t' b1 [kv,vv] 155 (.loc 1)):=by
 refine Cal.en Tryz.func106 rfl Tryz.ntmps106<|WC.rs<|WL.e (Ef.bx (.loc 1) (cs:=[kv,vv]) rfl) ?_
 rintro _ t1 ⟨b1,rfl,s1,hb1,nb1,mb1⟩
 exact WL.a rfl<|WL.go<|WC.rs<|WL.f (Fr.mf rfl)<|WL.a rfl<|WL.go<|WC.ret<|WQ.ret rfl (.tmp rfl .nil) (⟨_,rfl,hb1⟩)
theorem omap_All1 {b1:Nat} {g1:Tag} (Ak Av:Option Addr) (ck cv:Nat) (ks:List ByteArray) (us:Nat → Value) (vs:List Entry) (hkv:ks.length = vs.length) (hl:ks.length ≤ 900000):Iter 138 [.pointer (some ⟨b1,0,none⟩)] (fun t=>Sl t kStr (.slice Ak ks.length ck) ks ∧ EA t (.slice Av vs.length cv) us vs ∧ Bk t b1 [.slice Ak ks.length ck,.slice Av vs.length cv] 155 g1) ks.length (fun i=>[.string (ks.getD i ⟨#[]⟩),.agg (us i :: presC (vs.getD i noEntry).told).toArray]):=by
 intro l J t hstJ hresJ hyJ h0J
 obtain ⟨hk,hea,hb1⟩:=hresJ _ _ h0J
 refine Cal.en Tryz.func138 rfl Tryz.ntmps138<|WC.rs<|WL.q 0 rfl fa155_0<|WL.r (Rd.ld rfl sc54 (hb1.cell rfl))<|WL.f (Fr.ln rfl Tryz.underlying54)<|WL.m rfl<|WL.go<|WC.block<|WC.loop (σ:=Nat) (fun k t' => Sl t' kStr (.slice Ak ks.length ck) ks ∧ EA t' (.slice Av vs.length cv) us vs ∧ Bk t' b1 [.slice Ak ks.length ck,.slice Av vs.length cv] 155 g1 ∧ k ≤ ks.length ∧ J k t' ∧ True) (fun k=>[(0,.func (.yield l) #[] #[]),(1,.pointer (some ⟨b1,0,none⟩)),(6,.slice Ak ks.length ck),(7,.int .i64 (ks.length:Int)),(8,.int .i64 (k:Int))]) (fun k=>ks.length - k) 0 ⟨rfl,rfl,rfl,rfl,rfl,trivial⟩ ⟨hk,hea,hb1,Nat.zero_le _,h0J,trivial⟩ ?_
 rintro k t1 ⟨hk,hea,hb1,hkk,h0J,_⟩
 refine WC.rs<|WL.f (Fr.bo rfl rfl BO.lt)<|WL.go<|WC.seq ?_
 refine WC.condS rfl (fun hcond9=>?_) (fun hcond9=>?_)
 ·have hlt:k < ks.length:=by have:=dcT hcond9; omega
  have hlv:k < vs.length:=by omega
  refine WC.skip<|WQ.n<|WC.seq<|WC.block<|WC.rs<|WL.m rfl ?_
  have hk0:=hk
  obtain ⟨b,o,cap,c,e1,hcp,hR,hA,hlb,hfz⟩:=hk.at_ (List.getElem?_eq_getElem hlt)
  obtain ⟨rfl,_,rfl⟩:=Value.slice.inj e1
  obtain rfl:c = [.string ks[k]]:=hR
  refine WL.f (Fr.ix rfl rfl sl54 (by omega) (by omega))<|WL.r (Rd.ld rfl sc9 (hA.one rfl))<|WL.a rfl<|WL.a rfl<|WL.go<|WC.rsI<|WI.f (Fr.mv rfl)<|WI.f (Fr.mv rfl)<|WI.f (Fr.q 1 rfl fa155_1)<|WI.r (Rd.ld rfl sc153 (hb1.cell rfl)) ?_
  refine WI.f (Fr.mv rfl) ?_
  obtain ⟨b2,o2,cap2,e2,hc2,hA2,hlb2,hfz2,hse⟩:=hea k _ (List.getElem?_eq_getElem hlv)
  obtain ⟨rfl,_,rfl⟩:=Value.slice.inj e2
  refine WI.f (Fr.ix rfl rfl sl153 (by omega) (by omega))<|WI.r (Rd.la rfl ag228 hA2) ?_
  refine WI.y rfl rfl (by have:=hyJ _ _ hlt h0J; simp only [getD_at (List.getElem?_eq_getElem hlt),getD_at (List.getElem?_eq_getElem hlv)] at this; exact this) ?_
  rintro _ t2 ⟨s2,rfl,h0J⟩
  obtain ⟨hk,hea,hb1⟩:=hresJ _ _ h0J
  refine WI.f (Fr.un_not rfl)<|WI.gow<|WC.condF<|WC.skip<|WQ.bn<|WQ.n<|WC.rg<|WL.f (Fr.bo rfl rfl (BO.add (by omega) (by omega)))<|WL.m rfl<|WL.nil ?_
  exact WQ.again (k + 1) ⟨rfl,rfl,rfl,rfl,rfl,trivial⟩ ⟨hk,hea,hb1,hlt,h0J,trivial⟩ (by omega)
 have hge:k = ks.length:=by have:=dcF hcond9; omega
 exact WC.exit<|WQ.tx<|WQ.tx<|WQ.bx<|WQ.end_ rfl .nil (by rw [hge] at h0J; exact h0J)
def SwI (N B b6 b7:Nat) (a:Book × List Change) (t:TW):Prop:=
 ∃ A c A' c' A6 c6,Bk t b7 [.slice A a.1.keys.length c,.slice A' a.1.vals.length c'] 155 (.nw N 7) ∧ Sl t kStr (.slice A a.1.keys.length c) a.1.keys ∧ Sl t kEntry (.slice A' a.1.vals.length c') a.1.vals ∧ Bk t b6 [.slice A6 a.2.length c6] 201 (.nw N 6) ∧ Row t (.nw N 1) B 230 kChange (.slice A6 a.2.length c6) a.2
theorem SwI.step {N B b6 b7:Nat} {a:Book × List Change} {t t' : TW} {T:Tag → Prop} (h:SwI N B b6 b7 a t) (s:Step T t t') (h7:¬ T (.nw N 7)) (h6:¬ T (.nw N 6)) (h1:¬ T (.nw N 1)) (h0:¬ T .fz):SwI N B b6 b7 a t' := by
 obtain ⟨A,c,A', c', A6,c6,g1,g2,g3,g4,g5⟩:=h
 exact ⟨A,c,A', c', A6,c6,g1.step s h7,g2.step s h0,g3.step s h0,g4.step s h6,g5.step s h1 h0⟩
theorem SwI.n {N B b6 b7:Nat} {a:Book × List Change} {t t' : TW} {T:Tag → Prop} (h:SwI N B b6 b7 a t) (s:Step T t t') (h7:¬ T (.nw N 7):=by first | exact id | nofun | (rintro (h | h) <;> cases h) | (rintro (h | h | h) <;> cases h)) (h6:¬ T (.nw N 6):=by first | exact id | nofun | (rintro (h | h) <;> cases h) | (rintro (h | h | h) <;> cases h)) (h1:¬ T (.nw N 1):=by first | exact id | nofun | (rintro (h | h) <;> cases h) | (rintro (h | h | h) <;> cases h)) (h0:¬ T .fz:=by first | exact id | nofun | (rintro (h | h) <;> cases h) | (rintro (h | h | h) <;> cases h)):SwI N B b6 b7 a t' := h.step s h7 h6 h1 h0
theorem book_Sweep (kv vv:Value) (b:Book) (now:Int) (t:TW) (hk:Sl t kStr kv b.keys) (hv:Sl t kEntry vv b.vals) (hB:BookLe b 300000 600000):Cal 87 [.agg #[kv,vv],.int .u64 now] t No (fun r t' => ∃ A c A' c' C,r = .tuple #[.agg #[.slice A (bSweep b now).1.keys.length c,.slice A' (bSweep b now).1.vals.length c'],C] ∧ Sl t' kStr (.slice A (bSweep b now).1.keys.length c) (bSweep b now).1.keys ∧ Sl t' kEntry (.slice A' (bSweep b now).1.vals.length c') (bSweep b now).1.vals ∧ Sl t' kChange C (bSweep b now).2):=by
 obtain ⟨N,hN⟩:=t.fresh
 have hz:t.w.heap.size ≤ t.w.heap.size:=Nat.le_refl _
 obtain ⟨us,hea⟩:=hv.ea
 obtain ⟨Ak,ck,rfl,hck⟩:=hk.form
 obtain ⟨Av,cv,rfl,hcv⟩:=hv.form
 have hkv:=hB.1
 have hkl:=hB.2.1
 refine Cal.enterM Tryz.func87 rfl Tryz.ntmps87 (by simp)<|WC.rs<|WL.e (Ef.bx (.loc 2) (cs:=[.slice Ak b.keys.length ck,.slice Av b.vals.length cv]) rfl) ?_
 rintro _ t1 ⟨b2,rfl,s1,hb2,nb2,mb2⟩
 obtain ⟨hea,hk,hv,hz⟩:=Q4 (hea.n s1) (hk.n s1) (hv.n s1) (Nat.le_trans hz s1.size)
 refine WL.e (Ef.bx (.loc 3) (cs:=[.int .u64 now]) rfl) ?_
 rintro _ t2 ⟨b3,rfl,s2,hb3,nb3,mb3⟩
 obtain ⟨hb2,hea,hk,hv,hz⟩:=Q5 (hb2.n s2) (hea.n s2) (hk.n s2) (hv.n s2) (Nat.le_trans hz s2.size)
 refine WL.e (Ef.al (.loc 4) zr155) ?_
 rintro _ t3 ⟨b4,rfl,s3,hb4,nb4,mb4⟩
 obtain ⟨hb2,hb3,hea,hk,hv,hz⟩:=Q6 (hb2.n s3) (hb3.n s3) (hea.n s3) (hk.n s3) (hv.n s3) (Nat.le_trans hz s3.size)
 refine WL.a rfl<|WL.go<|WC.rs<|WL.e (Ef.al (.nw N 6) zr201) ?_
 rintro _ t4 ⟨b6,rfl,s4,hb6,nb6,mb6⟩
 obtain ⟨hb2,hb3,hb4,hea,hk,hv,hz⟩:=Q7 (hb2.n s4) (hb3.n s4) (hb4.n s4) (hea.n s4) (hk.n s4) (hv.n s4) (Nat.le_trans hz s4.size)
 refine WL.go<|WC.rs<|WL.r (Rd.la rfl ag155 (hb2.at (vs:=[.slice Ak b.keys.length ck,.slice Av b.vals.length cv]) rfl))<|WL.e (Ef.al (.nw N 7) zr155) ?_
 rintro _ t5 ⟨b7,rfl,s5,hb7,nb7,mb7⟩
 obtain ⟨hb2,hb3,hb4,hb6,hea,hk,hv,hz⟩:=Q8 (hb2.n s5) (hb3.n s5) (hb4.n s5) (hb6.n s5) (hea.n s5) (hk.n s5) (hv.n s5) (Nat.le_trans hz s5.size)
 refine WL.e0 (Ef.T [.slice Ak b.keys.length ck,.slice Av b.vals.length cv] rfl rfl hb7 sz155 (.inl nb7)) ?_
 rintro _ t6 ⟨u6,s6,hb7'⟩
 have hb7:Bk t6 b7 [.slice Ak b.keys.length ck,.slice Av b.vals.length cv] _ _:=hb7'
 clear hb7'
 obtain ⟨hb2,hb3,hb4,hb6,hea,hk,hv,hz⟩:=Q8 (hb2.n s6) (hb3.n s6) (hb4.n s6) (hb6.n s6) (hea.n s6) (hk.n s6) (hv.n s6) (Nat.le_trans hz s6.size)
 refine WL.go<|WC.seq<|WC.rs<|WL.r (Rd.la rfl ag155 (hb2.at (vs:=[.slice Ak b.keys.length ck,.slice Av b.vals.length cv]) rfl))<|WL.e (Ef.call rfl en106 (omap_All _ _ _) (fun _ h=>h.elim)) ?_
 rintro _ t7 ⟨s7,b1,rfl,h1⟩
 obtain ⟨hb2,hb3,hb4,hb6,hb7,hea,hk,hv,hz⟩:=Q9 (hb2.n s7) (hb3.n s7) (hb4.n s7) (hb6.n s7) (hb7.n s7) (hea.n s7) (hk.n s7) (hv.n s7) (Nat.le_trans hz s7.size)
 refine WL.go<|WC.block ?_
 refine WC.range (N:=N) (n:=b.keys.length) (enc:=fun i=>[.string (b.keys.getD i ⟨#[]⟩),.agg (us i :: presC (b.vals.getD i noEntry).told).toArray]) (fun z=>z = .nw N 1 ∨ z = .nw N 6 ∨ z = .nw N 7) (fun i t' => Sl t' kStr (.slice Ak b.keys.length ck) b.keys ∧ Sl t' kEntry (.slice Av b.vals.length cv) b.vals ∧ EA t' (.slice Av b.vals.length cv) us b.vals ∧ t.w.heap.size ≤ t'.w.heap.size ∧ Bk t' b2 [.slice Ak b.keys.length ck,.slice Av b.vals.length cv] 155 (.loc 2) ∧ Bk t' b3 [.int .u64 now] 22 (.loc 3) ∧ Bk t' b4 [.slice none 0 0,.slice none 0 0] 155 (.loc 4) ∧ Bk t' b1 [.slice Ak b.keys.length ck,.slice Av b.vals.length cv] 155 (.loc 1) ∧ SwI N t.w.heap.size b6 b7 (sweepAcc b now i) t' ∧ True) rfl rfl en138 (omap_All1 (g1:=.loc 1) Ak Av ck cv b.keys us b.vals hkv (by omega)) hN ((by rintro (h | h | h) <;> cases h)) (fun q hq=>.inr fun k hk=>by rcases hq with rfl | rfl | rfl <;> exact hN k hk _) ?_ ?_ ⟨hk,hv,hea,hz,hb2,hb3,hb4,h1,⟨_,_,_,_,_,_,hb7,hk,hv,hb6,Row.nil _ _ _ _ _⟩,trivial⟩ (fun _=>rfl) rfl ?_ ?_
 ·rintro i ta tb sq ⟨hk,hv,hea,hz,hb2,hb3,hb4,h1,hI,_⟩
  obtain ⟨h1,hI,hb2,hb3,hb4,hea,hk,hv,hz⟩:=Q9 (h1.n sq) (hI.n sq) (hb2.n sq) (hb3.n sq) (hb4.n sq) (hea.n sq) (hk.n sq) (hv.n sq) (Nat.le_trans hz sq.size)
  exact ⟨hk,hv,hea,hz,hb2,hb3,hb4,h1,hI,trivial⟩
 ·rintro i ta ⟨hk,hv,hea,hz,hb2,hb3,hb4,h1,hI,_⟩
  exact ⟨hk,hea,h1⟩
 ·rintro i l t8 hi ⟨hk,hv,hea,hz,hb2,hb3,hb4,h1,hI,_⟩
  have hlv:i < b.vals.length:=by omega
  have hsu:=sweepAcc_succ (now:=now) hi hlv
  have hle:=sweepAcc_le hB now i
  obtain ⟨_,_,_,_,_,_,_,_,hse⟩:=hea i _ (List.getElem?_eq_getElem hlv)
  rw [← getD_at (z:=(⟨#[]⟩:ByteArray)) (List.getElem?_eq_getElem hi)] at hsu
  have hxl:=hB.2.2 _ (List.getElem_mem hlv)
  rw [← getD_at (z:=noEntry) (List.getElem?_eq_getElem hlv)] at hsu hse hxl
  generalize b.vals.getD i noEntry = x at hsu hse hxl ⊢
  generalize hu:us i = u at hse ⊢
  obtain ⟨Au,cu,rfl,hcu⟩:=hse.form
  generalize ha:sweepAcc b now i = a at hI hsu hle
  obtain ⟨A1,c1,A2,c2,A6,c6,hb7,g2,g3,hb6,g5⟩:=hI
  have hBa:BookOk a.1:=hle.1.mono (by omega) (Nat.le_refl _)
  have hal:=hle.2
  have hfl:=List.length_filter_le (live now) x.sessions
  have hch:=settle_ch a.1 (b.keys.getD i ⟨#[]⟩) (x.sessions.filter (live now)) now
  refine WCI.rs<|WI.f (Fr.as rfl)<|WI.go<|WCI.rg<|WI.e (Ef.al (.loc 9) zr228) ?_
  rintro _ t9 ⟨b9,rfl,s9,hb9,nb9,mb9⟩
  obtain ⟨g2,g3,g5,h1,hb2,hb3,hb4,hb6,hb7,hea,hk,hse⟩:=Q12 (g2.n s9) (g3.n s9) (g5.n s9) (h1.n s9) (hb2.n s9) (hb3.n s9) (hb4.n s9) (hb6.n s9) (hb7.n s9) (hea.n s9) (hk.n s9) (hse.n s9)
  obtain ⟨hv,hz⟩:=Q2 (hv.n s9) (Nat.le_trans hz s9.size)
  refine WI.e0 (Ef.T [.slice Au x.sessions.length cu,.int .i64 x.told.status,.int .i64 x.told.prio,.int .i64 x.told.live] rfl rfl hb9 sz228 (.inl nb9)) ?_
  rintro _ t10 ⟨u10,s10,hb9'⟩
  have hb9:Bk t10 b9 [.slice Au x.sessions.length cu,.int .i64 x.told.status,.int .i64 x.told.prio,.int .i64 x.told.live] _ _:=hb9'
  clear hb9'
  obtain ⟨g2,g3,g5,h1,hb2,hb3,hb4,hb6,hb7,hea,hk,hse⟩:=Q12 (g2.n s10) (g3.n s10) (g5.n s10) (h1.n s10) (hb2.n s10) (hb3.n s10) (hb4.n s10) (hb6.n s10) (hb7.n s10) (hea.n s10) (hk.n s10) (hse.n s10)
  obtain ⟨hv,hz⟩:=Q2 (hv.n s10) (Nat.le_trans hz s10.size)
  refine WI.nil ?_
  refine WQ.asg fun t11 s11=>?_
  obtain ⟨g2,g3,g5,h1,hb2,hb3,hb4,hb6,hb7,hb9,hea,hk⟩:=Q12 (g2.n s11) (g3.n s11) (g5.n s11) (h1.n s11) (hb2.n s11) (hb3.n s11) (hb4.n s11) (hb6.n s11) (hb7.n s11) (hb9.n s11) (hea.n s11) (hk.n s11)
  obtain ⟨hse,hv,hz⟩:=Q3 (hse.n s11) (hv.n s11) (Nat.le_trans hz s11.size)
  refine WCI.block<|WCI.rs<|WI.f (Fr.as rfl)<|WI.go<|WCI.drsN (fun w=>At w b9 0 [.slice Au x.sessions.length cu] ∧ At w b3 0 [.int .u64 now] ∧ At w b3 0 [.int .u64 now] ∧ True) (⟨hb9.at rfl,hb3.at rfl,hb3.at rfl,trivial⟩) ?_
  obtain ⟨g2,g3,g5,h1,hb2,hb3,hb4,hb6,hb7,hb9,hea,hk⟩:=Q12 (g2.n (TW.drew_step _)) (g3.n (TW.drew_step _)) (g5.n (TW.drew_step _)) (h1.n (TW.drew_step _)) (hb2.n (TW.drew_step _)) (hb3.n (TW.drew_step _)) (hb4.n (TW.drew_step _)) (hb6.n (TW.drew_step _)) (hb7.n (TW.drew_step _)) (hb9.n (TW.drew_step _)) (hea.n (TW.drew_step _)) (hk.n (TW.drew_step _))
  obtain ⟨hse,hv,hz⟩:=Q3 (hse.n (TW.drew_step _)) (hv.n (TW.drew_step _)) (Nat.le_trans hz (TW.drew_step _).size)
  refine DL.m 1 rfl rfl<|DL.fx 2 rfl (Fr.q 0 rfl fa228_0)<|DL.hx 3 rfl (fun w hw=>Rd.ld rfl sc123 (hw.1.one rfl))<|DL.hx 4 rfl (fun w hw=>Rd.ld rfl sc22 (hw.2.1.one rfl))<|DL.hx 6 rfl (fun w hw=>Rd.ld rfl sc22 (hw.2.2.1.one rfl)) ?_
  refine DL.e2 (i:=0) (j:=5) (by kernel_rfl) ?_ ?_
  focus
   refine DOp.r rfl (Rd.la rfl ag155 (hb7.at (vs:=[.slice A1 a.1.keys.length c1,.slice A2 a.1.vals.length c2]) rfl))<|DL.ex 5 rfl (Ef.call rfl en108 (sess_Purge _ x.sessions now _ hse (by omega)) (fun _ h=>h.elim)) (fun _ _ ⟨s,_⟩=>⟨hb9.a s,hb3.a s,hb3.a s,trivial⟩) ?_
   rintro v22 t12 ⟨s12,h22⟩
   obtain ⟨g2,g3,g5,h1,hb2,hb3,hb4,hb6,hb7,hb9,hea,hk⟩:=Q12 (g2.n s12) (g3.n s12) (g5.n s12) (h1.n s12) (hb2.n s12) (hb3.n s12) (hb4.n s12) (hb6.n s12) (hb7.n s12) (hb9.n s12) (hea.n s12) (hk.n s12)
   obtain ⟨hv,hz⟩:=Q2 (hv.n s12) (Nat.le_trans hz s12.size)
   refine DL.ex 7 rfl (Ef.call rfl en107 (book_settle _ _ _ a.1 (b.keys.getD i ⟨#[]⟩) (x.sessions.filter (live now)) now _ g2 g3 h22 hBa (by omega)) (fun _ h=>h.elim)) (fun _ _ ⟨s,_⟩=>⟨hb9.a s,hb3.a s,hb3.a s,trivial⟩) ?_
   rintro _ t13 ⟨s13,A4,c4,A5,c5,C,rfl,h4,h5,hC⟩
   obtain ⟨g5,h1,hb2,hb3,hb4,hb6,hb7,hb9,hea,hk,hv,hz⟩:=Q12 (g5.n s13) (h1.n s13) (hb2.n s13) (hb3.n s13) (hb4.n s13) (hb6.n s13) (hb7.n s13) (hb9.n s13) (hea.n s13) (hk.n s13) (hv.n s13) (Nat.le_trans hz s13.size)
   refine DL.m 8 rfl rfl<|DL.fx 9 rfl (Fr.ext rfl rfl)<|DL.fx 10 rfl (Fr.ext rfl rfl)<|DL.e0x 11 rfl (Ef.T [.slice A4 (settle a.1 (b.keys.getD i ⟨#[]⟩) (x.sessions.filter (live now)) now).1.keys.length c4,.slice A5 (settle a.1 (b.keys.getD i ⟨#[]⟩) (x.sessions.filter (live now)) now).1.vals.length c5] rfl rfl hb7 sz155 (.inr (.inr (.inr rfl)))) (fun _ _ ⟨_,s,_⟩=>⟨hb9.a s,hb3.a s,hb3.a s,trivial⟩) ?_
   rintro _ t14 ⟨u14,s14,hb7'⟩
   have hb7:Bk t14 b7 [.slice A4 (settle a.1 (b.keys.getD i ⟨#[]⟩) (x.sessions.filter (live now)) now).1.keys.length c4,.slice A5 (settle a.1 (b.keys.getD i ⟨#[]⟩) (x.sessions.filter (live now)) now).1.vals.length c5] _ _:=hb7'
   clear hb7'
   obtain ⟨g5,h1,h4,h5,hC,hb2,hb3,hb4,hb6,hea,hk,hv⟩:=Q12 (g5.n s14) (h1.n s14) (h4.n s14) (h5.n s14) (hC.n s14) (hb2.n s14) (hb3.n s14) (hb4.n s14) (hb6.n s14) (hea.n s14) (hk.n s14) (hv.n s14)
   have hz:=Nat.le_trans hz s14.size
   refine DL.fx 12 rfl (Fr.as rfl)<|DL.doneN (by kernel_rfl)<|WQ.nI<|WCI.rg<|WI.r (Rd.ld rfl sc201 (hb6.cell rfl))<|WI.f (Fr.mv rfl)<|WI.e (Ef.aps rfl rfl sl201 el230 (by decide) g5 hC hz (by omega) (by decide) nofun (.inr (.inl rfl))) ?_
   rintro v29 t15 ⟨s15,h29⟩
   obtain ⟨h1,h4,h5,hb2,hb3,hb4,hb6,hb7,hea,hk,hv,hz⟩:=Q12 (h1.n s15) (h4.n s15) (h5.n s15) (hb2.n s15) (hb3.n s15) (hb4.n s15) (hb6.n s15) (hb7.n s15) (hea.n s15) (hk.n s15) (hv.n s15) (Nat.le_trans hz s15.size)
   obtain ⟨A29,c29,rfl,_⟩:=h29.form
   refine WI.e0 (Ef.T [.slice A29 (a.2 ++ (settle a.1 (b.keys.getD i ⟨#[]⟩) (x.sessions.filter (live now)) now).2).length c29] rfl rfl hb6 sz201 (.inr (.inr (.inl rfl)))) ?_
   rintro _ t16 ⟨u16,s16,hb6'⟩
  rotate_left
  focus
   refine DOp.e rfl (Ef.call rfl en108 (sess_Purge _ x.sessions now _ hse (by omega)) (fun _ h=>h.elim)) (fun _ _ ⟨s,_⟩=>⟨hb9.a s,hb3.a s,hb3.a s,trivial⟩) ?_
   rintro v22 t17 ⟨s17,h22⟩
   obtain ⟨g2,g3,g5,h1,hb2,hb3,hb4,hb6,hb7,hb9,hea,hk⟩:=Q12 (g2.n s17) (g3.n s17) (g5.n s17) (h1.n s17) (hb2.n s17) (hb3.n s17) (hb4.n s17) (hb6.n s17) (hb7.n s17) (hb9.n s17) (hea.n s17) (hk.n s17)
   obtain ⟨hv,hz⟩:=Q2 (hv.n s17) (Nat.le_trans hz s17.size)
   refine DL.rx 0 rfl (Rd.la rfl ag155 (hb7.at (vs:=[.slice A1 a.1.keys.length c1,.slice A2 a.1.vals.length c2]) rfl))<|DL.ex 7 rfl (Ef.call rfl en107 (book_settle _ _ _ a.1 (b.keys.getD i ⟨#[]⟩) (x.sessions.filter (live now)) now _ g2 g3 h22 hBa (by omega)) (fun _ h=>h.elim)) (fun _ _ ⟨s,_⟩=>⟨hb9.a s,hb3.a s,hb3.a s,trivial⟩) ?_
   rintro _ t18 ⟨s18,A4,c4,A5,c5,C,rfl,h4,h5,hC⟩
   obtain ⟨g5,h1,hb2,hb3,hb4,hb6,hb7,hb9,hea,hk,hv,hz⟩:=Q12 (g5.n s18) (h1.n s18) (hb2.n s18) (hb3.n s18) (hb4.n s18) (hb6.n s18) (hb7.n s18) (hb9.n s18) (hea.n s18) (hk.n s18) (hv.n s18) (Nat.le_trans hz s18.size)
   refine DL.m 8 rfl rfl<|DL.fx 9 rfl (Fr.ext rfl rfl)<|DL.fx 10 rfl (Fr.ext rfl rfl)<|DL.e0x 11 rfl (Ef.T [.slice A4 (settle a.1 (b.keys.getD i ⟨#[]⟩) (x.sessions.filter (live now)) now).1.keys.length c4,.slice A5 (settle a.1 (b.keys.getD i ⟨#[]⟩) (x.sessions.filter (live now)) now).1.vals.length c5] rfl rfl hb7 sz155 (.inr (.inr (.inr rfl)))) (fun _ _ ⟨_,s,_⟩=>⟨hb9.a s,hb3.a s,hb3.a s,trivial⟩) ?_
   rintro _ t19 ⟨u19,s19,hb7'⟩
   have hb7:Bk t19 b7 [.slice A4 (settle a.1 (b.keys.getD i ⟨#[]⟩) (x.sessions.filter (live now)) now).1.keys.length c4,.slice A5 (settle a.1 (b.keys.getD i ⟨#[]⟩) (x.sessions.filter (live now)) now).1.vals.length c5] _ _:=hb7'
   clear hb7'
   obtain ⟨g5,h1,h4,h5,hC,hb2,hb3,hb4,hb6,hea,hk,hv⟩:=Q12 (g5.n s19) (h1.n s19) (h4.n s19) (h5.n s19) (hC.n s19) (hb2.n s19) (hb3.n s19) (hb4.n s19) (hb6.n s19) (hea.n s19) (hk.n s19) (hv.n s19)
   have hz:=Nat.le_trans hz s19.size
   refine DL.fx 12 rfl (Fr.as rfl)<|DL.doneN (by kernel_rfl)<|WQ.nI<|WCI.rg<|WI.r (Rd.ld rfl sc201 (hb6.cell rfl))<|WI.f (Fr.mv rfl)<|WI.e (Ef.aps rfl rfl sl201 el230 (by decide) g5 hC hz (by omega) (by decide) nofun (.inr (.inl rfl))) ?_
   rintro v29 t20 ⟨s20,h29⟩
   obtain ⟨h1,h4,h5,hb2,hb3,hb4,hb6,hb7,hea,hk,hv,hz⟩:=Q12 (h1.n s20) (h4.n s20) (h5.n s20) (hb2.n s20) (hb3.n s20) (hb4.n s20) (hb6.n s20) (hb7.n s20) (hea.n s20) (hk.n s20) (hv.n s20) (Nat.le_trans hz s20.size)
   obtain ⟨A29,c29,rfl,_⟩:=h29.form
   refine WI.e0 (Ef.T [.slice A29 (a.2 ++ (settle a.1 (b.keys.getD i ⟨#[]⟩) (x.sessions.filter (live now)) now).2).length c29] rfl rfl hb6 sz201 (.inr (.inr (.inl rfl)))) ?_
   rintro _ t16 ⟨u21,s16,hb6'⟩
  all_goals
   have hb6:Bk t16 b6 [.slice A29 (a.2 ++ (settle a.1 (b.keys.getD i ⟨#[]⟩) (x.sessions.filter (live now)) now).2).length c29] _ _:=hb6'
   clear hb6'
   obtain ⟨h1,h29,h4,h5,hb2,hb3,hb4,hb7,hea,hk,hv,hz⟩:=Q12 (h1.n s16) (h29.n s16) (h4.n s16) (h5.n s16) (hb2.n s16) (hb3.n s16) (hb4.n s16) (hb7.n s16) (hea.n s16) (hk.n s16) (hv.n s16) (Nat.le_trans hz s16.size)
   exact WI.nil<|WQ.bn<|WQ.round ⟨hk,hv,hea,hz,hb2,hb3,hb4,h1,(by rw [hsu]; exact ⟨_,_,_,_,_,_,hb7,h4,h5,hb6,h29⟩),trivial⟩
 rintro D t22 ⟨hk,hv,hea,hz,hb2,hb3,hb4,h1,hI,_⟩ hD
 rw [sweepAcc_all now (Nat.le_refl _)] at hI
 obtain ⟨A1,c1,A2,c2,A6,c6,hb7,g2,g3,hb6,h6r⟩:=hI
 refine WQ.bn<|WQ.n<|WC.drsN (fun w=>At w b7 0 [.slice A1 (bSweep b now).1.keys.length c1,.slice A2 (bSweep b now).1.vals.length c2] ∧ At w b6 0 [.slice A6 (bSweep b now).2.length c6] ∧ True) (⟨hb7.at rfl,hb6.at rfl,trivial⟩) ?_
 obtain ⟨g2,g3,h6r,hD,hb4,hb6,hb7,hz⟩:=Q8 (g2.n (TW.drew_step _)) (g3.n (TW.drew_step _)) (h6r.n (TW.drew_step _)) (hD.n (TW.drew_step _)) (hb4.n (TW.drew_step _)) (hb6.n (TW.drew_step _)) (hb7.n (TW.drew_step _)) (Nat.le_trans hz (TW.drew_step _).size)
 refine DL.hx 0 rfl (fun w hw=>Rd.la rfl ag155 hw.1)<|DL.hx 1 rfl (fun w hw=>Rd.ld rfl sc201 (hw.2.1.one rfl))<|DL.e0x 2 rfl (Ef.T [.slice A1 (bSweep b now).1.keys.length c1,.slice A2 (bSweep b now).1.vals.length c2] rfl rfl hb4 sz155 (.inl nb4)) (fun _ _ ⟨_,s,_⟩=>⟨hb7.a s,hb6.a s,trivial⟩) ?_
 rintro _ t23 ⟨u23,s23,hb4'⟩
 have hb4:Bk t23 b4 [.slice A1 (bSweep b now).1.keys.length c1,.slice A2 (bSweep b now).1.vals.length c2] _ _:=hb4'
 clear hb4'
 obtain ⟨g2,g3,h6r,hD,hz⟩:=Q5 (g2.n s23) (g3.n s23) (h6r.n s23) (hD.n s23) (Nat.le_trans hz s23.size)
 refine DL.fx 3 rfl (Fr.as rfl)<|DL.doneN (by kernel_rfl)<|WQ.n<|WC.ret ?_
 have f2:=h6r.freeze nofun
 have q2:=TW.tagv_step _ (g' := .fz) h6r.tags
 refine WQ.tag _ .fz (.inl h6r.base) ?_
 obtain ⟨g2,g3,hD,hb4⟩:=Q4 (g2.n q2) (g3.n q2) (hD.n q2) (hb4.n q2)
 refine WQ.retM rfl hD hN fun tz sz=>?_
 obtain ⟨f2,g2,g3,hb4⟩:=Q4 (f2.n sz) (g2.n sz) (g3.n sz) (hb4.n sz)
 exact ⟨_,(.cell rfl (loadVar_ag ag155 rfl (hb4.at (vs:=[.slice A1 (bSweep b now).1.keys.length c1,.slice A2 (bSweep b now).1.vals.length c2]) rfl)) (.tmp rfl .nil)),⟨_,_,_,_,_,rfl,g2,g3,f2⟩⟩
theorem put_get {cs vs:List Value} {o:Nat} (h:o + vs.length ≤ cs.length) (m:Nat):(put cs o vs)[m]? = if o ≤ m ∧ m < o + vs.length then vs[m - o]? else cs[m]?:=by
 unfold put
 by_cases h1:m < o
 ·rw [if_neg (by omega),List.append_assoc,List.getElem?_append_left (by rw [List.length_take]; omega),List.getElem?_take,if_pos h1]
 by_cases h2:m < o + vs.length
 ·rw [if_pos ⟨by omega,h2⟩,List.getElem?_append_left (by rw [List.length_append,List.length_take]; omega),List.getElem?_append_right (by rw [List.length_take]; omega),List.length_take,Nat.min_eq_left (by omega)]
 rw [if_neg (by omega),List.getElem?_append_right (by rw [List.length_append,List.length_take]; omega),List.getElem?_drop,List.length_append,List.length_take,Nat.min_eq_left (by omega)]
 congr 1
 omega
theorem seg_get' {cs:List Value} {k i m:Nat}:(seg cs k i)[m]? = if m < k then cs[i * k + m]? else none:=by
 unfold seg
 rw [List.getElem?_take]
 split
 ·rw [List.getElem?_drop]
 rfl
theorem seg_put {cs vs:List Value} {k i i' j:Nat} (hj:j + vs.length ≤ k) (hf:(i + 1) * k ≤ cs.length):seg (put cs (i * k + j) vs) k i' = if i' = i then put (seg cs k i) j vs else seg cs k i' := by
 have hf' := hf
 rw [Nat.add_mul] at hf'
 have hsl:(seg cs k i).length = k:=by
  unfold seg
  rw [List.length_take,List.length_drop]
  omega
 apply List.ext_getElem?
 intro m
 rw [seg_get', put_get (by omega)]
 by_cases hi:i' = i
 ·subst hi
  rw [if_pos rfl,put_get (by omega)]
  by_cases hm:m < k
  ·rw [if_pos hm]
   by_cases hin:j ≤ m ∧ m < j + vs.length
   ·rw [if_pos (by omega),if_pos hin]
    congr 1
    omega
   rw [if_neg (by omega),if_neg hin,seg_get', if_pos hm]
  rw [if_neg hm,if_neg (by omega),seg_get', if_neg hm]
 rw [if_neg hi,seg_get']
 by_cases hm:m < k
 ·rw [if_pos hm,if_pos hm]
  rw [if_neg]
  intro hin
  rcases Nat.lt_or_gt_of_ne hi with h | h
  ·have h1:(i' + 1) * k ≤ i * k:=Nat.mul_le_mul_right _ h
   rw [Nat.add_mul] at h1
   omega
  have h1:(i + 1) * k ≤ i' * k:=Nat.mul_le_mul_right _ h
  rw [Nat.add_mul] at h1
  omega
 rw [if_neg hm,if_neg hm]
section
variable {α:Type} {d:Kn α} {t t' : TW} {g:Tag} {B e:Nat} {xs:List α} {cs:List Value}
theorem Cs.setg {i j:Nat} {x z:α} {vs:List Value} (h:Cs d t cs xs) (hi:xs[i]? = some x) (hj:j + vs.length ≤ d.k) (hf:(i + 1) * d.k ≤ cs.length) (hR:∀ c,d.R t x c → d.R t z (X.put c j vs)):Cs d t (X.put cs (i * d.k + j) vs) (xs.set i z):=fun n y hn=>by
 rw [seg_put hj hf]
 rw [List.getElem?_set] at hn
 by_cases hin:i = n
 ·subst hin
  rw [if_pos rfl]
  rw [if_pos rfl,if_pos (List.getElem?_eq_some_iff.1 hi).1] at hn
  rw [← Option.some.inj hn]
  exact hR _ (h i x hi)
 ·rw [if_neg (fun e=>hin e.symm)]
  rw [if_neg hin] at hn
  exact h n y hn
end
section
variable {α:Type} {dk:Kn α} {c:Ctx} {E:Env} {dd:Option Nat} {ty:TypeId} {pos:String} {af:Array Edge} {gd:Option (Nat × Bool)} {x y:Operand} {v:Value} {t:TW} {g:Tag} {B e:Nat} {xs:List α}
theorem Ef.stG {q b o len cap i j m:Nat} {x0 z:α} {u:Value} {vs:List Value} (h:ev E x = some (.pointer (some ⟨b,o,none⟩))) (h' : ev E y = some u) (hr:Row t g B e dk (.slice (some ⟨b,0,none⟩) len cap) xs) (ho:o = i * dk.k + j) (hj:j + vs.length ≤ dk.k) (hi:xs[i]? = some x0) (hv:u.cells = vs.toArray) (h1:∀ w ∈ vs,w.oneCell' = true) (hR:∀ t' c,Step (fun k=>k = g) t t' → dk.R t' x0 c → dk.R t' z (put c j vs)) (hq:SzT q m) (hm:vs.length = m) (hg:g ≠ .fz)
  (hT:c.t0.w.heap.size ≤ B ∨ c.T g):Ef c ⟨dd,.store q x y,ty,pos,af,gd⟩ E t (fun _ t' => Step (fun k=>k = g) t t' ∧ Row t' g B e dk (.slice (some ⟨b,0,none⟩) len cap) (xs.set i z)):=by
 obtain ⟨cs,rfl,hB,hb,hc,hs,hmx,hC⟩:=hr.open_
 subst ho
 have hlt:=(List.getElem?_eq_some_iff.1 hi).1
 have hf:(i + 1) * dk.k ≤ cs.length:=by
  rw [hs]
  exact Nat.mul_le_mul_right _ (by omega)
 have hfit:i * dk.k + j + vs.length ≤ cs.length:=by
  rw [Nat.add_mul] at hf
  omega
 refine .mk fun hs' a ha K Q hk=>(Ef.st (vs:=vs) (ty:=ty) (pos:=pos) (af:=af) (g:=gd) (d:=dd) h h' hb hv h1 hq hm hfit (hT.imp (fun h=>Nat.le_trans h hB) id)).out hs' a ha K Q fun v' t' hst hh=>hk v' t' hst ?_
 obtain ⟨hu,hst2,hb2⟩:=hh
 refine ⟨hst2,?_⟩
 have hC2:=(hC.step hst2 (fun e=>hg e.symm)).setg (z:=z) hi hj hf (fun c hc=>hR _ c hst2 hc)
 have:=Row.of_cs (xs:=xs.set i z) hb2 hB (by rw [List.length_set]; exact hc) (by rw [put_length hfit,hs]) hmx hC2
 rwa [List.length_set] at this
end
abbrev actC (x:Int × Int × Int):List Value:=[.int .i64 x.1,.int .i64 x.2.1,.int .i64 x.2.2]
def kAct:Kn (Int × Int × Int):=Kn.flat 3 actC (fun _=>rfl) (fun x u hu=>by simp at hu; rcases hu with rfl | rfl | rfl <;> rfl)
abbrev strC (x:Str) (v1 v2 v3 v4:Value):List Value:=[.int .i64 x.latch,.int .u64 x.cv,.int .u64 x.cb,v1,v2,v3,v4,.pointer (some ⟨x.fp,0,none⟩)]
def kStripe:Kn Str where
 k:=8
 R:=fun t x c=>∃ v1 v2 v3 v4,c = strC x v1 v2 v3 v4 ∧ Sl t kStr v1 x.snap.keys ∧ Sl t kEntry v2 x.snap.vals ∧ Sl t kStr v3 x.book.keys ∧ Sl t kEntry v4 x.book.vals
 len:=by rintro t x c ⟨v1,v2,v3,v4,rfl,_⟩; rfl
 one:=by
  rintro t x c ⟨v1,v2,v3,v4,rfl,h1,h2,h3,h4⟩ u hu
  simp at hu
  rcases hu with rfl | rfl | rfl | rfl | rfl | rfl | rfl | rfl <;> first | rfl | exact h1.cell | exact h2.cell | exact h3.cell | exact h4.cell
 stp:=by
  rintro T t t' x c s hT ⟨v1,v2,v3,v4,rfl,h1,h2,h3,h4⟩
  exact ⟨v1,v2,v3,v4,rfl,h1.step s hT,h2.step s hT,h3.step s hT,h4.step s hT⟩
structure IsHall (t:TW) (b:Nat) (h:HallS):Prop where
 out:∃ bs cs Aa ca,Bk t b (cfgC h.cfg ++ timeC h.time ++ [.slice (some ⟨bs,0,none⟩) h.strs.length cs,.slice Aa h.acts.length ca]) 144 .hall ∧ Row t .strs 0 157 kStripe (.slice (some ⟨bs,0,none⟩) h.strs.length cs) h.strs ∧ Row t .acts 0 222 kAct (.slice Aa h.acts.length ca) h.acts
 feeds:∀ i,i < h.strs.length → IsFeed t i (hStr h i).fp (h.feed i)
theorem IsHall.step {t t' : TW} {b:Nat} {h:HallS} {T:Tag → Prop} (hh:IsHall t b h) (s:Step T t t') (h1:¬ T .hall) (h2:¬ T .strs) (h3:¬ T .acts) (h4:∀ i,¬ T (.feed i)) (h5:∀ i k,¬ T (.ring i k)) (h6:∀ i k,¬ T (.rrow i k)) (h0:¬ T .fz):IsHall t' b h:=by
 obtain ⟨⟨bs,cs,Aa,ca,g1,g2,g3⟩,g4⟩:=hh
 exact ⟨⟨bs,cs,Aa,ca,g1.step s h1,g2.step s h2 h0,g3.step s h3 h0⟩,fun i hi=>(g4 i hi).step s (h4 i) (h5 i) (h6 i) h0⟩
theorem IsHall.n {t t' : TW} {b:Nat} {h:HallS} {T:Tag → Prop} (hh:IsHall t b h) (s:Step T t t') (h1:¬ T .hall:=by first | exact id | nofun | (rintro (h | h) <;> cases h) | (rintro (h | h | h) <;> cases h)) (h2:¬ T .strs:=by first | exact id | nofun | (rintro (h | h) <;> cases h) | (rintro (h | h | h) <;> cases h)) (h3:¬ T .acts:=by first | exact id | nofun | (rintro (h | h) <;> cases h) | (rintro (h | h | h) <;> cases h)) (h4:∀ i,¬ T (.feed i):=by intro _; first | exact id | nofun | (rintro (h | h) <;> cases h) | (rintro (h | h | h) <;> cases h)) (h5:∀ i k,¬ T (.ring i k):=by intro _ _; first | exact id | nofun | (rintro (h | h) <;> cases h) | (rintro (h | h | h) <;> cases h)) (h6:∀ i k,¬ T (.rrow i k):=by intro _ _; first | exact id | nofun | (rintro (h | h) <;> cases h) | (rintro (h | h | h) <;> cases h)) (h0:¬ T .fz:=by first | exact id | nofun | (rintro (h | h) <;> cases h) | (rintro (h | h | h) <;> cases h)):IsHall t' b h:=hh.step s h1 h2 h3 h4 h5 h6 h0
theorem hall_did {b:Nat} {h:HallS} (who kind place:Int) (t:TW) (hH:IsHall t b h) (ha:h.acts.length ≤ 900000):Cal 84 [.pointer (some ⟨b,0,none⟩),.int .i64 who,.int .i64 kind,.int .i64 place] t (fun z=>z = .hall ∨ z = .acts) (fun _ t' => IsHall t' b (hDid h who kind place)):=by
 obtain ⟨⟨bs,cs,Aa,ca,hb,hst,hac⟩,hf⟩:=hH
 refine Cal.en Tryz.func84 rfl Tryz.ntmps84<|WC.rg<|WL.m rfl<|WL.m rfl<|WL.f (Fr.ncP rfl)<|WL.q 11 rfl fa144_3<|WL.r (Rd.ld rfl sc142 (hb.cell rfl))<|WL.m rfl<|WL.m rfl<|WL.m rfl ?_
 refine WL.f (Fr.bd (vs:=[(0,.int .i64 who),(1,.int .i64 kind),(2,.int .i64 place)]) (cs:=#[.int .i64 who,.int .i64 kind,.int .i64 place]) rfl (fun w=>by kernel_rfl))<|WL.e (Ef.bs (.loc 17) (vs:=[(0,.agg #[.int .i64 who,.int .i64 kind,.int .i64 place])]) (cs:=[.int .i64 who,.int .i64 kind,.int .i64 place]) (e:=222) rfl (fun w=>by kernel_rfl)) ?_
 rintro _ t1 ⟨b17,rfl,s1,hb17,nb17,_⟩
 obtain ⟨hac,hb,hst⟩:=Q3 (hac.n s1) (hb.n s1) (hst.n s1)
 have hf:=fun i hi=>(hf i hi).step s1 id (fun _=>id) (fun _=>id) id
 refine WL.e (Ef.ap1 (dk:=kAct) (y1:=(who,kind,place)) rfl rfl hb17 rfl sl142 el222 (by decide) hac (Nat.zero_le _) (by omega) (by decide) nofun (.inr (.inr rfl))) ?_
 rintro v18 t2 ⟨s2,hac2⟩
 obtain ⟨hb,hst⟩:=Q2 (hb.n s2) (hst.n s2)
 have hf:=fun i hi=>(hf i hi).step s2 nofun (fun _=>nofun) (fun _=>nofun) nofun
 obtain ⟨A2,c2,rfl,_⟩:=hac2.form
 refine WL.f (Fr.ncP rfl)<|WL.q 11 rfl fa144_3<|WL.e0 (Ef.T [.slice A2 (h.acts ++ [(who,kind,place)]).length c2] rfl rfl hb sz142 (.inr (.inl rfl))) ?_
 rintro _ t3 ⟨u3,s3,hb'⟩
 have hb:Bk t3 b [.int .i64 h.cfg.stripes,.int .i64 h.cfg.sessions,.int .i64 h.cfg.queue,.int .i64 h.cfg.watches,.int .i64 h.cfg.retries,.int .u64 h.cfg.epochs,.int .u64 h.cfg.start,.int .u64 h.time.now,.int .u64 h.time.seq,.bool h.time.closed,.slice (some ⟨bs,0,none⟩) h.strs.length cs,.slice A2 (h.acts ++ [(who,kind,place)]).length c2] _ _:=hb'
 clear hb'
 have hst:=hst.n s3
 have hf:=fun i hi=>(hf i hi).step s3 nofun (fun _=>nofun) (fun _=>nofun) nofun
 have hac2:=hac2.n s3
 exact WL.nil<|WQ.end_ rfl .nil (⟨⟨_,_,_,_,hb,hst,hac2⟩,hf⟩)
theorem hall_Look {b:Nat} {h:HallS} (who:Int) (t:TW) (hH:IsHall t b h) (ha:h.acts.length ≤ 900000):Cal 156 [.pointer (some ⟨b,0,none⟩),.int .i64 who] t (fun z=>z = .hall ∨ z = .acts) (fun r t' => r = .agg (timeC h.time).toArray ∧ IsHall t' b (hLook h who)):=by
 refine Cal.en Tryz.func156 rfl Tryz.ntmps156<|WC.rs<|WL.e (Ef.al (.loc 4) zr42) ?_
 rintro _ t1 ⟨b4,rfl,s1,hb4,nb4,mb4⟩
 have hH:=hH.n s1
 refine WL.go<|WC.rs<|WL.m rfl<|WL.m rfl<|WL.e (Ef.call rfl en84 (hall_did who 3 0 _ hH (by omega)) (fun _ h=>h)) ?_
 rintro _ t2 ⟨s2,hH⟩
 have hb4:=hb4.n s2
 obtain ⟨⟨bs,cs,Aa,ca,hb,hst,hac⟩,hf⟩:=hH
 refine WL.go<|WC.rs<|WL.m rfl<|WL.f (Fr.ncP rfl)<|WL.q 7 rfl fa144_1<|WL.r (Rd.la rfl ag42 (hb.at (vs:=[.int .u64 (hDid h who 3 0).time.now,.int .u64 (hDid h who 3 0).time.seq,.bool (hDid h who 3 0).time.closed]) rfl))<|WL.e0 (Ef.T [.int .u64 (hDid h who 3 0).time.now,.int .u64 (hDid h who 3 0).time.seq,.bool (hDid h who 3 0).time.closed] rfl rfl hb4 sz42 (.inl nb4)) ?_
 rintro _ t3 ⟨u3,s3,hb4'⟩
 have hb4:Bk t3 b4 [.int .u64 (hDid h who 3 0).time.now,.int .u64 (hDid h who 3 0).time.seq,.bool (hDid h who 3 0).time.closed] _ _:=hb4'
 clear hb4'
 obtain ⟨hac,hb,hst⟩:=Q3 (hac.n s3) (hb.n s3) (hst.n s3)
 have hf:=fun i hi=>(hf i hi).step s3 nofun (fun _=>nofun) (fun _=>nofun) nofun
 exact WL.go<|WC.ret<|WQ.ret rfl (.cell rfl (loadVar_ag ag42 rfl (hb4.at (vs:=[.int .u64 (hDid h who 3 0).time.now,.int .u64 (hDid h who 3 0).time.seq,.bool (hDid h who 3 0).time.closed]) rfl)) .nil) (⟨rfl,⟨_,_,_,_,hb,hst,hac⟩,hf⟩)
theorem hall_Config {b:Nat} {h:HallS} (t:TW) (hH:IsHall t b h):Cal 82 [.pointer (some ⟨b,0,none⟩)] t No (fun r t' => r = .agg (cfgC h.cfg).toArray):=by
 obtain ⟨⟨bs,cs,Aa,ca,hb,hst,hac⟩,hf⟩:=hH
 refine Cal.en Tryz.func82 rfl Tryz.ntmps82<|WC.rs<|WL.e (Ef.al (.loc 2) zr24) ?_
 rintro _ t1 ⟨b2,rfl,s1,hb2,nb2,mb2⟩
 have hb:=hb.n s1
 have hf:=fun i hi=>(hf i hi).step s1 id (fun _=>id) (fun _=>id) id
 refine WL.go<|WC.rs<|WL.m rfl<|WL.f (Fr.ncP rfl)<|WL.q 0 rfl fa144_0<|WL.r (Rd.la rfl ag24 (hb.at (vs:=[.int .i64 h.cfg.stripes,.int .i64 h.cfg.sessions,.int .i64 h.cfg.queue,.int .i64 h.cfg.watches,.int .i64 h.cfg.retries,.int .u64 h.cfg.epochs,.int .u64 h.cfg.start]) rfl))<|WL.e0 (Ef.T [.int .i64 h.cfg.stripes,.int .i64 h.cfg.sessions,.int .i64 h.cfg.queue,.int .i64 h.cfg.watches,.int .i64 h.cfg.retries,.int .u64 h.cfg.epochs,.int .u64 h.cfg.start] rfl rfl hb2 sz24 (.inl nb2)) ?_
 rintro _ t2 ⟨u2,s2,hb2'⟩
 have hb2:Bk t2 b2 [.int .i64 h.cfg.stripes,.int .i64 h.cfg.sessions,.int .i64 h.cfg.queue,.int .i64 h.cfg.watches,.int .i64 h.cfg.retries,.int .u64 h.cfg.epochs,.int .u64 h.cfg.start] _ _:=hb2'
 clear hb2'
 have hf:=fun i hi=>(hf i hi).step s2 nofun (fun _=>nofun) (fun _=>nofun) nofun
 exact WL.go<|WC.ret<|WQ.ret rfl (.cell rfl (loadVar_ag ag24 rfl (hb2.at (vs:=[.int .i64 h.cfg.stripes,.int .i64 h.cfg.sessions,.int .i64 h.cfg.queue,.int .i64 h.cfg.watches,.int .i64 h.cfg.retries,.int .u64 h.cfg.epochs,.int .u64 h.cfg.start]) rfl)) .nil) (rfl)
theorem hStr_get {h:HallS} {s:Nat} (hs:s < h.strs.length):h.strs[s]? = some (hStr h s):=by
 unfold hStr
 rw [List.getD_eq_getElem?_getD,List.getElem?_eq_getElem hs]
 rfl
theorem hStr_set {h:HallS} {s:Nat} {x:Str} (i:Nat) (hs:s < h.strs.length):hStr (hSet h s x) i = if i = s then x else hStr h i:=by
 unfold hStr hSet
 simp only [List.getD_eq_getElem?_getD,List.getElem?_set]
 by_cases e:s = i
 ·subst e
  rw [if_pos rfl,if_pos hs,if_pos rfl]
  rfl
 rw [if_neg e,if_neg (fun e' => e e'.symm)]
theorem At.part {w:World} {b o:Nat} {cs:List Value} (h:At w b o cs) (j:Nat) {vs:List Value} (hv:(cs.drop j).take vs.length = vs):At w b (o + j) vs:=fun i v hi=>by
 rw [← hv,List.getElem?_take] at hi
 split at hi
 ·rw [List.getElem?_drop] at hi
  have:=h _ v hi
  rwa [← Nat.add_assoc] at this
 ·cases hi
theorem IsHall.mk_set {t:TW} {b s bs cs ca:Nat} {Aa:Option Addr} {h:HallS} {x:Str} (hb:Bk t b (cfgC h.cfg ++ timeC h.time ++ [.slice (some ⟨bs,0,none⟩) h.strs.length cs,.slice Aa h.acts.length ca]) 144 .hall) (hst:Row t .strs 0 157 kStripe (.slice (some ⟨bs,0,none⟩) h.strs.length cs) (h.strs.set s x))
  (hac:Row t .acts 0 222 kAct (.slice Aa h.acts.length ca) h.acts) (hf:∀ i,i < h.strs.length → IsFeed t i (hStr h i).fp (h.feed i)) (hs:s < h.strs.length) (hfp:x.fp = (hStr h s).fp):IsHall t b (hSet h s x):=by
 have e:(h.strs.set s x).length = h.strs.length:=List.length_set
 rw [← e] at hb hst
 refine ⟨⟨bs,cs,Aa,ca,hb,hst,hac⟩,fun i hi=>?_⟩
 rw [hStr_set i hs]
 have hi' : i < h.strs.length:=e ▸ hi
 have:=hf i hi'
 split
 ·rename_i e2
  subst e2
  rw [hfp]
  exact this
 exact this
theorem hall_Take {b:Nat} {h:HallS} (who:Int) (t:TW) (hH:IsHall t b h) (ha:h.acts.length ≤ 900000) (ht0:0 ≤ h.time.now ∧ h.time.now ≤ 18446744073709551615) (ht1:0 ≤ h.time.seq ∧ h.time.seq ≤ 18446744073709551615):Cal 163 [.pointer (some ⟨b,0,none⟩),.int .i64 who] t (fun z=>z = .hall ∨ z = .acts) (fun r t' => r = .agg (timeC (hTake h who).time).toArray ∧ IsHall t' b (hTake h who)):=by
 refine Cal.en Tryz.func163 rfl Tryz.ntmps163<|WC.rs<|WL.e (Ef.al (.loc 4) zr42) ?_
 rintro _ t1 ⟨b4,rfl,s1,hb4,nb4,mb4⟩
 have hH:=hH.n s1
 refine WL.go<|WC.rs<|WL.m rfl<|WL.m rfl<|WL.e (Ef.call rfl en84 (hall_did who 4 0 _ hH (by omega)) (fun _ h=>h)) ?_
 rintro _ t2 ⟨s2,hH⟩
 have hb4:=hb4.n s2
 obtain ⟨⟨bs,cs,Aa,ca,hb,hst,hac⟩,hf⟩:=hH
 refine WL.go<|WC.rs<|WL.m rfl<|WL.m rfl<|WL.f (Fr.ncP rfl)<|WL.q 7 rfl fa144_1<|WL.r (Rd.la rfl ag42 (hb.at (vs:=[.int .u64 (hDid h who 4 0).time.now,.int .u64 (hDid h who 4 0).time.seq,.bool (hDid h who 4 0).time.closed]) rfl))<|WL.e (Ef.call rfl en186 (tick_Take _ _ _ _ ht1.1 ht1.2) (fun _ h=>h.elim)) ?_
 rintro _ t3 ⟨s3,rfl⟩
 obtain ⟨hac,hb,hb4,hst⟩:=Q4 (hac.n s3) (hb.n s3) (hb4.n s3) (hst.n s3)
 have hf:=fun i hi=>(hf i hi).step s3 id (fun _=>id) (fun _=>id) id
 refine WL.m rfl<|WL.f (Fr.ext rfl rfl)<|WL.f (Fr.ext rfl rfl)<|WL.f (Fr.ncP rfl)<|WL.q 7 rfl fa144_1<|WL.e0 (Ef.T [.int .u64 h.time.now,.int .u64 (tAdd h.time.seq 1),.bool h.time.closed] rfl rfl hb sz42 (.inr (.inl rfl))) ?_
 rintro _ t4 ⟨u4,s4,hb'⟩
 have hb:Bk t4 b [.int .i64 h.cfg.stripes,.int .i64 h.cfg.sessions,.int .i64 h.cfg.queue,.int .i64 h.cfg.watches,.int .i64 h.cfg.retries,.int .u64 h.cfg.epochs,.int .u64 h.cfg.start,.int .u64 h.time.now,.int .u64 (tAdd h.time.seq 1),.bool h.time.closed,.slice (some ⟨bs,0,none⟩) h.strs.length cs,.slice Aa (hDid h who 4 0).acts.length ca] _ _:=hb'
 clear hb'
 obtain ⟨hac,hb4,hst⟩:=Q3 (hac.n s4) (hb4.n s4) (hst.n s4)
 have hf:=fun i hi=>(hf i hi).step s4 nofun (fun _=>nofun) (fun _=>nofun) nofun
 refine WL.go<|WC.rs<|WL.m rfl<|WL.f (Fr.ncP rfl)<|WL.q 7 rfl fa144_1<|WL.r (Rd.la rfl ag42 (hb.at (vs:=[.int .u64 h.time.now,.int .u64 (tAdd h.time.seq 1),.bool h.time.closed]) rfl))<|WL.e0 (Ef.T [.int .u64 h.time.now,.int .u64 (tAdd h.time.seq 1),.bool h.time.closed] rfl rfl hb4 sz42 (.inl nb4)) ?_
 rintro _ t5 ⟨u5,s5,hb4'⟩
 have hb4:Bk t5 b4 [.int .u64 h.time.now,.int .u64 (tAdd h.time.seq 1),.bool h.time.closed] _ _:=hb4'
 clear hb4'
 obtain ⟨hac,hb,hst⟩:=Q3 (hac.n s5) (hb.n s5) (hst.n s5)
 have hf:=fun i hi=>(hf i hi).step s5 nofun (fun _=>nofun) (fun _=>nofun) nofun
 exact WL.go<|WC.ret<|WQ.ret rfl (.cell rfl (loadVar_ag ag42 rfl (hb4.at (vs:=[.int .u64 h.time.now,.int .u64 (tAdd h.time.seq 1),.bool h.time.closed]) rfl)) .nil) (⟨rfl,⟨_,_,_,_,hb,hst,hac⟩,hf⟩)
theorem hall_Pass {b:Nat} {h:HallS} (who by_:Int) (t:TW) (hH:IsHall t b h) (ha:h.acts.length ≤ 900000) (ht0:0 ≤ h.time.now ∧ h.time.now ≤ 18446744073709551615) (ht1:0 ≤ h.time.seq ∧ h.time.seq ≤ 18446744073709551615) (hb0:0 ≤ by_) (hb1:by_ ≤ 18446744073709551615):Cal 69 [.pointer (some ⟨b,0,none⟩),.int .i64 who,.int .u64 by_] t (fun z=>z = .hall ∨ z = .acts) (fun r t' => IsHall t' b (hPass h who by_)):=by
 refine Cal.en Tryz.func69 rfl Tryz.ntmps69<|WC.rs<|WL.m rfl<|WL.m rfl<|WL.e (Ef.call rfl en84 (hall_did who 4 0 _ hH (by omega)) (fun _ h=>h)) ?_
 rintro _ t1 ⟨s1,hH⟩
 obtain ⟨⟨bs,cs,Aa,ca,hb,hst,hac⟩,hf⟩:=hH
 refine WL.go<|WC.rg<|WL.m rfl<|WL.m rfl<|WL.f (Fr.ncP rfl)<|WL.q 7 rfl fa144_1<|WL.r (Rd.la rfl ag42 (hb.at (vs:=[.int .u64 (hDid h who 4 0).time.now,.int .u64 (hDid h who 4 0).time.seq,.bool (hDid h who 4 0).time.closed]) rfl))<|WL.m rfl<|WL.e (Ef.call rfl en85 (tick_Pass _ _ _ _ _ ht0.1 ht0.2 hb0 hb1) (fun _ h=>h.elim)) ?_
 rintro _ t2 ⟨s2,rfl⟩
 obtain ⟨hac,hb,hst⟩:=Q3 (hac.n s2) (hb.n s2) (hst.n s2)
 have hf:=fun i hi=>(hf i hi).step s2 id (fun _=>id) (fun _=>id) id
 refine WL.f (Fr.ncP rfl)<|WL.q 7 rfl fa144_1<|WL.e0 (Ef.T [.int .u64 (tAdd h.time.now by_),.int .u64 h.time.seq,.bool h.time.closed] rfl rfl hb sz42 (.inr (.inl rfl))) ?_
 rintro _ t3 ⟨u3,s3,hb'⟩
 have hb:Bk t3 b [.int .i64 h.cfg.stripes,.int .i64 h.cfg.sessions,.int .i64 h.cfg.queue,.int .i64 h.cfg.watches,.int .i64 h.cfg.retries,.int .u64 h.cfg.epochs,.int .u64 h.cfg.start,.int .u64 (tAdd h.time.now by_),.int .u64 h.time.seq,.bool h.time.closed,.slice (some ⟨bs,0,none⟩) h.strs.length cs,.slice Aa (hDid h who 4 0).acts.length ca] _ _:=hb'
 clear hb'
 obtain ⟨hac,hst⟩:=Q2 (hac.n s3) (hst.n s3)
 have hf:=fun i hi=>(hf i hi).step s3 nofun (fun _=>nofun) (fun _=>nofun) nofun
 exact WL.nil<|WQ.end_ rfl .nil (⟨⟨_,_,_,_,hb,hst,hac⟩,hf⟩)
theorem hall_Shut {b:Nat} {h:HallS} (who:Int) (t:TW) (hH:IsHall t b h) (ha:h.acts.length ≤ 900000):Cal 99 [.pointer (some ⟨b,0,none⟩),.int .i64 who] t (fun z=>z = .hall ∨ z = .acts) (fun r t' => r = .bool (!h.time.closed) ∧ IsHall t' b (hShut h who)):=by
 refine Cal.en Tryz.func99 rfl Tryz.ntmps99<|WC.rs<|WL.a rfl<|WL.go<|WC.rs<|WL.m rfl<|WL.m rfl<|WL.e (Ef.call rfl en84 (hall_did who 4 0 _ hH (by omega)) (fun _ h=>h)) ?_
 rintro _ t1 ⟨s1,hH⟩
 obtain ⟨⟨bs,cs,Aa,ca,hb,hst,hac⟩,hf⟩:=hH
 refine WL.go<|WC.rs<|WL.m rfl<|WL.f (Fr.ncP rfl)<|WL.q 7 rfl fa144_1<|WL.q 9 rfl fa42_2<|WL.r (Rd.ld rfl sc4 (hb.cell rfl))<|WL.a rfl<|WL.go<|WC.rs ?_
 refine WL.m rfl<|WL.m rfl<|WL.f (Fr.ncP rfl)<|WL.q 7 rfl fa144_1<|WL.r (Rd.la rfl ag42 (hb.at (vs:=[.int .u64 (hDid h who 4 0).time.now,.int .u64 (hDid h who 4 0).time.seq,.bool (hDid h who 4 0).time.closed]) rfl))<|WL.e (Ef.call rfl en123 (tick_Shut _ _ _ _) (fun _ h=>h.elim)) ?_
 rintro _ t2 ⟨s2,rfl⟩
 obtain ⟨hac,hb,hst⟩:=Q3 (hac.n s2) (hb.n s2) (hst.n s2)
 have hf:=fun i hi=>(hf i hi).step s2 id (fun _=>id) (fun _=>id) id
 refine WL.f (Fr.ncP rfl)<|WL.q 7 rfl fa144_1<|WL.e0 (Ef.T [.int .u64 h.time.now,.int .u64 h.time.seq,.bool true] rfl rfl hb sz42 (.inr (.inl rfl))) ?_
 rintro _ t3 ⟨u3,s3,hb'⟩
 have hb:Bk t3 b [.int .i64 h.cfg.stripes,.int .i64 h.cfg.sessions,.int .i64 h.cfg.queue,.int .i64 h.cfg.watches,.int .i64 h.cfg.retries,.int .u64 h.cfg.epochs,.int .u64 h.cfg.start,.int .u64 h.time.now,.int .u64 h.time.seq,.bool true,.slice (some ⟨bs,0,none⟩) h.strs.length cs,.slice Aa (hDid h who 4 0).acts.length ca] _ _:=hb'
 clear hb'
 obtain ⟨hac,hst⟩:=Q2 (hac.n s3) (hst.n s3)
 have hf:=fun i hi=>(hf i hi).step s3 nofun (fun _=>nofun) (fun _=>nofun) nofun
 exact WL.go<|WC.rs<|WL.m rfl<|WL.f (Fr.un_not rfl)<|WL.a rfl<|WL.go<|WC.ret<|WQ.ret rfl (.tmp rfl .nil) (⟨rfl,⟨_,_,_,_,hb,hst,hac⟩,hf⟩)
theorem hall_Free {b s:Nat} {h:HallS} (t:TW) (hH:IsHall t b h) (hs:s < h.strs.length) (hs8:h.strs.length ≤ 8):Cal 102 [.pointer (some ⟨b,0,none⟩),.int .i64 (s:Int)] t No (fun r t' => r = .bool (hFree h s)):=by
 obtain ⟨⟨bs,cs,Aa,ca,hb,hst,hac⟩,hf⟩:=hH
 refine Cal.en Tryz.func102 rfl Tryz.ntmps102<|WC.rs<|WL.a rfl<|WL.go<|WC.rs<|WL.m rfl<|WL.f (Fr.ncP rfl)<|WL.q 10 rfl fa144_2<|WL.r (Rd.ld rfl sc141 (hb.cell rfl))<|WL.m rfl ?_
 obtain ⟨bq,cq,dq,eq_,hcq,hRq,hAq,hlbq,hgq⟩:=hst.at_ (hStr_get hs)
 obtain ⟨eqb,_,rfl⟩:=Value.slice.inj eq_
 obtain ⟨rfl,_⟩:=Addr.mk.inj (Option.some.inj eqb)
 obtain ⟨v1,v2,v3,v4,rfl,g1,g2,g3,g4⟩:=hRq
 rw [← Nat.zero_add (s * kStripe.k)] at hAq
 refine WL.f (Fr.ix rfl rfl sl141 (by omega) (by omega))<|WL.f (Fr.fa rfl fa157_0)<|WL.r (Rd.la rfl ag152 (hAq.part (vs:=[.int .i64 (hStr h s).latch]) 0 rfl))<|WL.e (Ef.call rfl en130 (latch_Free _ _) (fun _ h=>h.elim)) ?_
 rintro _ t1 ⟨s1,rfl⟩
 have hf:=fun i hi=>(hf i hi).step s1 id (fun _=>id) (fun _=>id) id
 exact WL.a rfl<|WL.go<|WC.ret<|WQ.ret rfl (.tmp rfl .nil) (rfl)
theorem hall_Lock {b s:Nat} {h:HallS} (who:Int) (t:TW) (hH:IsHall t b h) (ha:h.acts.length ≤ 900000) (hs:s < h.strs.length) (hs8:h.strs.length ≤ 8) (hw:who ≤ 1000):Cal 154 [.pointer (some ⟨b,0,none⟩),.int .i64 who,.int .i64 (s:Int)] t (fun z=>z = .hall ∨ z = .acts ∨ z = .strs) (fun r t' => r = .bool (hLock h who s).2 ∧ IsHall t' b (hLock h who s).1):=by
 have hH2:=hH
 obtain ⟨⟨bs,cs,Aa,ca,hb,hst,hac⟩,hf⟩:=hH2
 refine Cal.en Tryz.func154 rfl Tryz.ntmps154<|WC.rs<|WL.a rfl<|WL.go<|WC.rs<|WL.m rfl<|WL.f (Fr.ncP rfl)<|WL.q 10 rfl fa144_2<|WL.r (Rd.ld rfl sc141 (hb.cell rfl))<|WL.m rfl ?_
 obtain ⟨bq,cq,dq,eq_,hcq,hRq,hAq,hlbq,hgq⟩:=hst.at_ (hStr_get hs)
 obtain ⟨eqb,_,rfl⟩:=Value.slice.inj eq_
 obtain ⟨rfl,_⟩:=Addr.mk.inj (Option.some.inj eqb)
 obtain ⟨v1,v2,v3,v4,rfl,g1,g2,g3,g4⟩:=hRq
 rw [← Nat.zero_add (s * kStripe.k)] at hAq
 refine WL.f (Fr.ix rfl rfl sl141 (by omega) (by omega))<|WL.f (Fr.fa rfl fa157_0)<|WL.r (Rd.la rfl ag152 (hAq.part (vs:=[.int .i64 (hStr h s).latch]) 0 rfl))<|WL.m rfl<|WL.e (Ef.call rfl en180 (latch_Take _ _ _ hw) (fun _ h=>h.elim)) ?_
 rintro _ t1 ⟨s1,rfl⟩
 obtain ⟨hac,hb,hst⟩:=Q3 (hac.n s1) (hb.n s1) (hst.n s1)
 have hf:=fun i hi=>(hf i hi).step s1 id (fun _=>id) (fun _=>id) id
 have hH:=hH.n s1
 refine WL.m rfl<|WL.f (Fr.ext rfl rfl)<|WL.f (Fr.ext rfl rfl)<|WL.e (Ef.al (.loc 7) zr152) ?_
 rintro _ t2 ⟨b7,rfl,s2,hb7,nb7,mb7⟩
 obtain ⟨hac,hb,hst⟩:=Q3 (hac.n s2) (hb.n s2) (hst.n s2)
 have hf:=fun i hi=>(hf i hi).step s2 id (fun _=>id) (fun _=>id) id
 have hH:=hH.n s2
 refine WL.e0 (Ef.T [.int .i64 (latchTake (hStr h s).latch who).1] rfl rfl hb7 sz152 (.inl nb7)) ?_
 rintro _ t3 ⟨u3,s3,hb7'⟩
 have hb7:Bk t3 b7 [.int .i64 (latchTake (hStr h s).latch who).1] _ _:=hb7'
 clear hb7'
 obtain ⟨hac,hb,hst⟩:=Q3 (hac.n s3) (hb.n s3) (hst.n s3)
 have hf:=fun i hi=>(hf i hi).step s3 nofun (fun _=>nofun) (fun _=>nofun) nofun
 have hH:=hH.n s3
 refine WL.a rfl<|WL.go<|WC.seq<|WC.rs<|WL.m rfl<|WL.go ?_
 refine WC.condS rfl (fun hcond22=>?_) (fun hcond22=>?_)
 ·have e1:hLock h who s = (hSet (hDid h who 5 (plc s 1)) s { hStr h s with latch:=(latchTake (hStr h s).latch who).1 },true):=by unfold hLock; rw [if_pos hcond22]
  rw [e1]
  clear hb hst hac hf
  refine WC.rs<|WL.m rfl<|WL.m rfl<|WL.m rfl<|WL.e (Ef.call rfl en105 (hall_Place _ _ _ (by omega) (by omega) (by omega) (by omega)) (fun _ h=>h.elim)) ?_
  rintro _ t4 ⟨s4,rfl⟩
  obtain ⟨hH,hb7⟩:=Q2 (hH.n s4) (hb7.n s4)
  refine WL.e (Ef.call rfl en84 (hall_did who 5 (plc s 1) _ hH (by omega)) (fun _ h=>h.elim .inl (fun h=>.inr (.inl h)))) ?_
  rintro _ t5 ⟨s5,hH⟩
  have hb7:=hb7.n s5
  obtain ⟨⟨bs,cs,Aa,ca,hb,hst,hac⟩,hf⟩:=hH
  refine WL.go<|WC.dr (fun w=>At w b 10 [.slice (some ⟨bs,0,none⟩) h.strs.length cs] ∧ True) (.then_ .body) (⟨hb.at rfl,trivial⟩) ?_
  obtain ⟨hac,hb,hb7,hst⟩:=Q4 (hac.n (TW.drew_step _)) (hb.n (TW.drew_step _)) (hb7.n (TW.drew_step _)) (hst.n (TW.drew_step _))
  have hf:=fun i hi=>(hf i hi).step (TW.drew_step _) id (fun _=>id) (fun _=>id) id
  refine DL.m 0 rfl rfl<|DL.fx 1 rfl (Fr.ncP rfl)<|DL.fx 2 rfl (Fr.q 10 rfl fa144_2)<|DL.m 4 rfl rfl<|DL.hx 3 rfl (fun w hw=>Rd.ld rfl sc141 (hw.1.one rfl))<|DL.rx 5 rfl (Rd.la rfl ag152 (hb7.at (vs:=[.int .i64 (latchTake (hStr h s).latch who).1]) rfl))<|DL.fx 6 rfl (Fr.ix rfl rfl sl141 (by omega) (by omega))<|DL.fx 7 rfl (Fr.fa rfl fa157_0)<|DL.e0x 8 rfl (Ef.stG (i:=s) (j:=0) (x0:=hStr h s) (z:={ hStr h s with latch:=(latchTake (hStr h s).latch who).1 }) (vs:=[.int .i64 (latchTake (hStr h s).latch who).1]) rfl rfl hst (by simp [kStripe]) (by simp [kStripe]) (hStr_get hs) rfl (by simp [Value.oneCell']) (fun t' c _ ⟨v1,v2,v3,v4,e,g1,g2,g3,g4⟩=>⟨v1,v2,v3,v4,by rw [e]; rfl,g1,g2,g3,g4⟩) sz152 rfl nofun (.inr (.inr (.inr rfl)))) (fun _ _ ⟨s,_⟩=>⟨hb.a s,trivial⟩) ?_
  rintro _ t6 ⟨s6,hst2⟩
  obtain ⟨hac,hb⟩:=Q2 (hac.n s6) (hb.n s6)
  have hf:=fun i hi=>(hf i hi).step s6 nofun (fun _=>nofun) (fun _=>nofun) nofun
  exact DL.D<|WQ.n<|WC.rs<|WL.m rfl<|WL.a rfl<|WL.go<|WC.ret<|WQ.ret rfl (.tmp rfl .nil) (⟨congrArg Value.bool hcond22,IsHall.mk_set (h:=(hDid h who 5 (plc s 1))) hb hst2 hac hf hs rfl⟩)
 have e1:hLock h who s = (h,false):=by unfold hLock; rw [if_neg (by rw [hcond22]; decide)]
 rw [e1]
 exact WC.skip<|WQ.n<|WC.rs<|WL.m rfl<|WL.a rfl<|WL.go<|WC.ret<|WQ.ret rfl (.tmp rfl .nil) (⟨congrArg Value.bool hcond22,hH⟩)
theorem hall_Unlock {b s:Nat} {h:HallS} (who:Int) (t:TW) (hH:IsHall t b h) (ha:h.acts.length ≤ 900000) (hs:s < h.strs.length) (hs8:h.strs.length ≤ 8) (hl0:0 ≤ (hStr h s).latch) (hl1:(hStr h s).latch ≤ 1000):Cal 121 [.pointer (some ⟨b,0,none⟩),.int .i64 who,.int .i64 (s:Int)] t (fun z=>z = .hall ∨ z = .acts ∨ z = .strs) (fun r t' => r = .bool (hUnlock h who s).2 ∧ IsHall t' b (hUnlock h who s).1):=by
 have hH2:=hH
 obtain ⟨⟨bs,cs,Aa,ca,hb,hst,hac⟩,hf⟩:=hH2
 refine Cal.en Tryz.func121 rfl Tryz.ntmps121<|WC.rs<|WL.a rfl<|WL.go<|WC.rs<|WL.m rfl<|WL.f (Fr.ncP rfl)<|WL.q 10 rfl fa144_2<|WL.r (Rd.ld rfl sc141 (hb.cell rfl))<|WL.m rfl ?_
 obtain ⟨bq,cq,dq,eq_,hcq,hRq,hAq,hlbq,hgq⟩:=hst.at_ (hStr_get hs)
 obtain ⟨eqb,_,rfl⟩:=Value.slice.inj eq_
 obtain ⟨rfl,_⟩:=Addr.mk.inj (Option.some.inj eqb)
 obtain ⟨v1,v2,v3,v4,rfl,g1,g2,g3,g4⟩:=hRq
 rw [← Nat.zero_add (s * kStripe.k)] at hAq
 refine WL.f (Fr.ix rfl rfl sl141 (by omega) (by omega))<|WL.f (Fr.fa rfl fa157_0)<|WL.r (Rd.la rfl ag152 (hAq.part (vs:=[.int .i64 (hStr h s).latch]) 0 rfl))<|WL.m rfl<|WL.e (Ef.call rfl en159 (latch_Give _ _ _ hl0 hl1) (fun _ h=>h.elim)) ?_
 rintro _ t1 ⟨s1,rfl⟩
 obtain ⟨hac,hb,hst⟩:=Q3 (hac.n s1) (hb.n s1) (hst.n s1)
 have hf:=fun i hi=>(hf i hi).step s1 id (fun _=>id) (fun _=>id) id
 have hH:=hH.n s1
 refine WL.m rfl<|WL.f (Fr.ext rfl rfl)<|WL.f (Fr.ext rfl rfl)<|WL.e (Ef.al (.loc 7) zr152) ?_
 rintro _ t2 ⟨b7,rfl,s2,hb7,nb7,mb7⟩
 obtain ⟨hac,hb,hst⟩:=Q3 (hac.n s2) (hb.n s2) (hst.n s2)
 have hf:=fun i hi=>(hf i hi).step s2 id (fun _=>id) (fun _=>id) id
 have hH:=hH.n s2
 refine WL.e0 (Ef.T [.int .i64 (latchGive (hStr h s).latch who).1] rfl rfl hb7 sz152 (.inl nb7)) ?_
 rintro _ t3 ⟨u3,s3,hb7'⟩
 have hb7:Bk t3 b7 [.int .i64 (latchGive (hStr h s).latch who).1] _ _:=hb7'
 clear hb7'
 obtain ⟨hac,hb,hst⟩:=Q3 (hac.n s3) (hb.n s3) (hst.n s3)
 have hf:=fun i hi=>(hf i hi).step s3 nofun (fun _=>nofun) (fun _=>nofun) nofun
 have hH:=hH.n s3
 refine WL.a rfl<|WL.go<|WC.seq<|WC.rs<|WL.m rfl<|WL.go ?_
 refine WC.condS rfl (fun hcond22=>?_) (fun hcond22=>?_)
 ·have e1:hUnlock h who s = (hSet (hDid h who 6 (plc s 1)) s { hStr h s with latch:=(latchGive (hStr h s).latch who).1 },true):=by unfold hUnlock; rw [if_pos hcond22]
  rw [e1]
  clear hb hst hac hf
  refine WC.rs<|WL.m rfl<|WL.m rfl<|WL.m rfl<|WL.e (Ef.call rfl en105 (hall_Place _ _ _ (by omega) (by omega) (by omega) (by omega)) (fun _ h=>h.elim)) ?_
  rintro _ t4 ⟨s4,rfl⟩
  obtain ⟨hH,hb7⟩:=Q2 (hH.n s4) (hb7.n s4)
  refine WL.e (Ef.call rfl en84 (hall_did who 6 (plc s 1) _ hH (by omega)) (fun _ h=>h.elim .inl (fun h=>.inr (.inl h)))) ?_
  rintro _ t5 ⟨s5,hH⟩
  have hb7:=hb7.n s5
  obtain ⟨⟨bs,cs,Aa,ca,hb,hst,hac⟩,hf⟩:=hH
  refine WL.go<|WC.dr (fun w=>At w b 10 [.slice (some ⟨bs,0,none⟩) h.strs.length cs] ∧ True) (.then_ .body) (⟨hb.at rfl,trivial⟩) ?_
  obtain ⟨hac,hb,hb7,hst⟩:=Q4 (hac.n (TW.drew_step _)) (hb.n (TW.drew_step _)) (hb7.n (TW.drew_step _)) (hst.n (TW.drew_step _))
  have hf:=fun i hi=>(hf i hi).step (TW.drew_step _) id (fun _=>id) (fun _=>id) id
  refine DL.m 0 rfl rfl<|DL.fx 1 rfl (Fr.ncP rfl)<|DL.fx 2 rfl (Fr.q 10 rfl fa144_2)<|DL.m 4 rfl rfl<|DL.hx 3 rfl (fun w hw=>Rd.ld rfl sc141 (hw.1.one rfl))<|DL.rx 5 rfl (Rd.la rfl ag152 (hb7.at (vs:=[.int .i64 (latchGive (hStr h s).latch who).1]) rfl))<|DL.fx 6 rfl (Fr.ix rfl rfl sl141 (by omega) (by omega))<|DL.fx 7 rfl (Fr.fa rfl fa157_0)<|DL.e0x 8 rfl (Ef.stG (i:=s) (j:=0) (x0:=hStr h s) (z:={ hStr h s with latch:=(latchGive (hStr h s).latch who).1 }) (vs:=[.int .i64 (latchGive (hStr h s).latch who).1]) rfl rfl hst (by simp [kStripe]) (by simp [kStripe]) (hStr_get hs) rfl (by simp [Value.oneCell']) (fun t' c _ ⟨v1,v2,v3,v4,e,g1,g2,g3,g4⟩=>⟨v1,v2,v3,v4,by rw [e]; rfl,g1,g2,g3,g4⟩) sz152 rfl nofun (.inr (.inr (.inr rfl)))) (fun _ _ ⟨s,_⟩=>⟨hb.a s,trivial⟩) ?_
  rintro _ t6 ⟨s6,hst2⟩
  obtain ⟨hac,hb⟩:=Q2 (hac.n s6) (hb.n s6)
  have hf:=fun i hi=>(hf i hi).step s6 nofun (fun _=>nofun) (fun _=>nofun) nofun
  exact DL.D<|WQ.n<|WC.rs<|WL.m rfl<|WL.a rfl<|WL.go<|WC.ret<|WQ.ret rfl (.tmp rfl .nil) (⟨congrArg Value.bool hcond22,IsHall.mk_set (h:=(hDid h who 6 (plc s 1))) hb hst2 hac hf hs rfl⟩)
 have e1:hUnlock h who s = (h,false):=by unfold hUnlock; rw [if_neg (by rw [hcond22]; decide)]
 rw [e1]
 exact WC.skip<|WQ.n<|WC.rs<|WL.m rfl<|WL.a rfl<|WL.go<|WC.ret<|WQ.ret rfl (.tmp rfl .nil) (⟨congrArg Value.bool hcond22,hH⟩)
theorem hall_Epoch {b s:Nat} {h:HallS} (who:Int) (t:TW) (hH:IsHall t b h) (ha:h.acts.length ≤ 900000) (hs:s < h.strs.length) (hs8:h.strs.length ≤ 8)  : Cal 250 [.pointer (some ⟨b,0,none⟩),.int .i64 who,.int .i64 (s:Int)] t (fun z=>z = .hall ∨ z = .acts) (fun r t' => r = .int .u64 (hStr h s).cv ∧ IsHall t' b (hEpoch h who s)):=by
 refine Cal.en Tryz.func250 rfl Tryz.ntmps250<|WC.rs<|WL.a rfl<|WL.go<|WC.rs<|WL.m rfl<|WL.m rfl<|WL.m rfl<|WL.e (Ef.call rfl en105 (hall_Place _ _ _ (by omega) (by omega) (by omega) (by omega)) (fun _ h=>h.elim)) ?_
 rintro _ t1 ⟨s1,rfl⟩
 have hH:=hH.n s1
 refine WL.e (Ef.call rfl en84 (hall_did who 3 (plc s 2) _ hH (by omega)) (fun _ h=>h)) ?_
 rintro _ t2 ⟨s2,hH⟩
 obtain ⟨⟨bs,cs,Aa,ca,hb,hst,hac⟩,hf⟩:=hH
 have hsd:s < (hDid h who 3 (plc s 2)).strs.length:=hs
 refine WL.go<|WC.rs<|WL.m rfl<|WL.f (Fr.ncP rfl)<|WL.q 10 rfl fa144_2<|WL.r (Rd.ld rfl sc141 (hb.cell rfl))<|WL.m rfl ?_
 obtain ⟨bq,cq,dq,eq_,hcq,hRq,hAq,hlbq,hgq⟩:=hst.at_ (hStr_get hs)
 obtain ⟨eqb,_,rfl⟩:=Value.slice.inj eq_
 obtain ⟨rfl,_⟩:=Addr.mk.inj (Option.some.inj eqb)
 obtain ⟨v1,v2,v3,v4,rfl,g1,g2,g3,g4⟩:=hRq
 rw [← Nat.zero_add (s * kStripe.k)] at hAq
 refine WL.f (Fr.ix rfl rfl sl141 (by omega) (by omega))<|WL.f (Fr.fa rfl fa157_1)<|WL.r (Rd.la rfl ag147 (hAq.part (vs:=[.int .u64 (hStr h s).cv,.int .u64 (hStr h s).cb]) 1 rfl))<|WL.e (Ef.call rfl en257 (cell_Value _ _ _) (fun _ h=>h.elim)) ?_
 rintro _ t3 ⟨s3,rfl⟩
 obtain ⟨hac,hb,hst⟩:=Q3 (hac.n s3) (hb.n s3) (hst.n s3)
 have hf:=fun i hi=>(hf i hi).step s3 id (fun _=>id) (fun _=>id) id
 exact WL.a rfl<|WL.go<|WC.ret<|WQ.ret rfl (.tmp rfl .nil) (⟨rfl,⟨_,_,_,_,hb,hst,hac⟩,hf⟩)
theorem hall_Begin {b s:Nat} {h:HallS} (who:Int) (t:TW) (hH:IsHall t b h) (ha:h.acts.length ≤ 900000) (hs:s < h.strs.length) (hs8:h.strs.length ≤ 8) (hc0:0 ≤ (hStr h s).cv) (hc1:(hStr h s).cv < 18446744073709551615):Cal 162 [.pointer (some ⟨b,0,none⟩),.int .i64 who,.int .i64 (s:Int)] t (fun z=>z = .hall ∨ z = .acts ∨ z = .strs) (fun r t' => IsHall t' b (hBegin h who s)):=by
 refine Cal.en Tryz.func162 rfl Tryz.ntmps162<|WC.rs<|WL.m rfl<|WL.m rfl<|WL.m rfl<|WL.e (Ef.call rfl en105 (hall_Place _ _ _ (by omega) (by omega) (by omega) (by omega)) (fun _ h=>h.elim)) ?_
 rintro _ t1 ⟨s1,rfl⟩
 have hH:=hH.n s1
 refine WL.e (Ef.call rfl en84 (hall_did who 4 (plc s 2) _ hH (by omega)) (fun _ h=>h.elim .inl (fun h=>.inr (.inl h)))) ?_
 rintro _ t2 ⟨s2,hH⟩
 obtain ⟨⟨bs,cs,Aa,ca,hb,hst,hac⟩,hf⟩:=hH
 have hsd:s < (hDid h who 4 (plc s 2)).strs.length:=hs
 refine WL.go<|WC.dr (fun w=>At w b 10 [.slice (some ⟨bs,0,none⟩) h.strs.length cs] ∧ True) .body (⟨hb.at rfl,trivial⟩) ?_
 obtain ⟨hac,hb,hst⟩:=Q3 (hac.n (TW.drew_step _)) (hb.n (TW.drew_step _)) (hst.n (TW.drew_step _))
 have hf:=fun i hi=>(hf i hi).step (TW.drew_step _) id (fun _=>id) (fun _=>id) id
 refine DL.m 0 rfl rfl<|DL.fx 1 rfl (Fr.ncP rfl)<|DL.fx 2 rfl (Fr.q 10 rfl fa144_2)<|DL.m 4 rfl rfl<|DL.m 5 rfl rfl<|DL.fx 6 rfl (Fr.ncP rfl)<|DL.fx 7 rfl (Fr.q 10 rfl fa144_2)<|DL.m 9 rfl rfl<|DL.hx 3 rfl (fun w hw=>Rd.ld rfl sc141 (hw.1.one rfl))<|DL.rx 8 rfl (Rd.ld rfl sc141 (hb.cell rfl)) ?_
 obtain ⟨bq,cq,dq,eq_,hcq,hRq,hAq,hlbq,hgq⟩:=hst.at_ (hStr_get hs)
 obtain ⟨eqb,_,rfl⟩:=Value.slice.inj eq_
 obtain ⟨rfl,_⟩:=Addr.mk.inj (Option.some.inj eqb)
 obtain ⟨v1,v2,v3,v4,rfl,g1,g2,g3,g4⟩:=hRq
 rw [← Nat.zero_add (s * kStripe.k)] at hAq
 refine DL.fx 10 rfl (Fr.ix rfl rfl sl141 (by omega) (by omega))<|DL.fx 11 rfl (Fr.fa rfl fa157_1)<|DL.rx 12 rfl (Rd.la rfl ag147 (hAq.part (vs:=[.int .u64 (hStr h s).cv,.int .u64 (hStr h s).cb]) 1 rfl))<|DL.ex 13 rfl (Ef.call rfl en185 (cell_Begin _ _ _ hc0 hc1) (fun _ h=>h.elim)) (fun _ _ ⟨s,_⟩=>⟨hb.a s,trivial⟩) ?_
 rintro _ t3 ⟨s3,rfl⟩
 obtain ⟨hac,hb,hst⟩:=Q3 (hac.n s3) (hb.n s3) (hst.n s3)
 have hf:=fun i hi=>(hf i hi).step s3 id (fun _=>id) (fun _=>id) id
 refine DL.fx 14 rfl (Fr.ix rfl rfl sl141 (by omega) (by omega))<|DL.fx 15 rfl (Fr.fa rfl fa157_1)<|DL.e0x 16 rfl (Ef.stG (i:=s) (j:=1) (x0:=hStr h s) (z:={ hStr h s with cv:=cBegin (hStr h s).cv (hStr h s).cb }) (vs:=[.int .u64 (cBegin (hStr h s).cv (hStr h s).cb),.int .u64 (hStr h s).cb]) rfl rfl hst (by simp [kStripe]) (by simp [kStripe]) (hStr_get hs) rfl (by simp [Value.oneCell']) (fun t' c _ ⟨v1,v2,v3,v4,e,g1,g2,g3,g4⟩=>⟨v1,v2,v3,v4,by rw [e]; rfl,g1,g2,g3,g4⟩) sz147 rfl nofun (.inr (.inr (.inr rfl)))) (fun _ _ ⟨s,_⟩=>⟨hb.a s,trivial⟩) ?_
 rintro _ t4 ⟨s4,hst2⟩
 obtain ⟨hac,hb⟩:=Q2 (hac.n s4) (hb.n s4)
 have hf:=fun i hi=>(hf i hi).step s4 nofun (fun _=>nofun) (fun _=>nofun) nofun
 exact DL.D<|WQ.end_ rfl .nil (IsHall.mk_set (h:=hDid h who 4 (plc s 2)) hb hst2 hac hf hs rfl)
theorem hall_End {b s:Nat} {h:HallS} (who:Int) (t:TW) (hH:IsHall t b h) (ha:h.acts.length ≤ 900000) (hs:s < h.strs.length) (hs8:h.strs.length ≤ 8) (hc0:0 ≤ (hStr h s).cv) (hc1:(hStr h s).cv < 18446744073709551615):Cal 165 [.pointer (some ⟨b,0,none⟩),.int .i64 who,.int .i64 (s:Int)] t (fun z=>z = .hall ∨ z = .acts ∨ z = .strs) (fun r t' => IsHall t' b (hEnd h who s)):=by
 refine Cal.en Tryz.func165 rfl Tryz.ntmps165<|WC.rs<|WL.m rfl<|WL.m rfl<|WL.m rfl<|WL.e (Ef.call rfl en105 (hall_Place _ _ _ (by omega) (by omega) (by omega) (by omega)) (fun _ h=>h.elim)) ?_
 rintro _ t1 ⟨s1,rfl⟩
 have hH:=hH.n s1
 refine WL.e (Ef.call rfl en84 (hall_did who 4 (plc s 2) _ hH (by omega)) (fun _ h=>h.elim .inl (fun h=>.inr (.inl h)))) ?_
 rintro _ t2 ⟨s2,hH⟩
 obtain ⟨⟨bs,cs,Aa,ca,hb,hst,hac⟩,hf⟩:=hH
 have hsd:s < (hDid h who 4 (plc s 2)).strs.length:=hs
 refine WL.go<|WC.dr (fun w=>At w b 10 [.slice (some ⟨bs,0,none⟩) h.strs.length cs] ∧ True) .body (⟨hb.at rfl,trivial⟩) ?_
 obtain ⟨hac,hb,hst⟩:=Q3 (hac.n (TW.drew_step _)) (hb.n (TW.drew_step _)) (hst.n (TW.drew_step _))
 have hf:=fun i hi=>(hf i hi).step (TW.drew_step _) id (fun _=>id) (fun _=>id) id
 refine DL.m 0 rfl rfl<|DL.fx 1 rfl (Fr.ncP rfl)<|DL.fx 2 rfl (Fr.q 10 rfl fa144_2)<|DL.m 4 rfl rfl<|DL.m 5 rfl rfl<|DL.fx 6 rfl (Fr.ncP rfl)<|DL.fx 7 rfl (Fr.q 10 rfl fa144_2)<|DL.m 9 rfl rfl<|DL.hx 3 rfl (fun w hw=>Rd.ld rfl sc141 (hw.1.one rfl))<|DL.rx 8 rfl (Rd.ld rfl sc141 (hb.cell rfl)) ?_
 obtain ⟨bq,cq,dq,eq_,hcq,hRq,hAq,hlbq,hgq⟩:=hst.at_ (hStr_get hs)
 obtain ⟨eqb,_,rfl⟩:=Value.slice.inj eq_
 obtain ⟨rfl,_⟩:=Addr.mk.inj (Option.some.inj eqb)
 obtain ⟨v1,v2,v3,v4,rfl,g1,g2,g3,g4⟩:=hRq
 rw [← Nat.zero_add (s * kStripe.k)] at hAq
 refine DL.fx 10 rfl (Fr.ix rfl rfl sl141 (by omega) (by omega))<|DL.fx 11 rfl (Fr.fa rfl fa157_1)<|DL.rx 12 rfl (Rd.la rfl ag147 (hAq.part (vs:=[.int .u64 (hStr h s).cv,.int .u64 (hStr h s).cb]) 1 rfl))<|DL.ex 13 rfl (Ef.call rfl en187 (cell_End _ _ _ hc0 hc1) (fun _ h=>h.elim)) (fun _ _ ⟨s,_⟩=>⟨hb.a s,trivial⟩) ?_
 rintro _ t3 ⟨s3,rfl⟩
 obtain ⟨hac,hb,hst⟩:=Q3 (hac.n s3) (hb.n s3) (hst.n s3)
 have hf:=fun i hi=>(hf i hi).step s3 id (fun _=>id) (fun _=>id) id
 refine DL.fx 14 rfl (Fr.ix rfl rfl sl141 (by omega) (by omega))<|DL.fx 15 rfl (Fr.fa rfl fa157_1)<|DL.e0x 16 rfl (Ef.stG (i:=s) (j:=1) (x0:=hStr h s) (z:={ hStr h s with cv:=cEnd (hStr h s).cv }) (vs:=[.int .u64 (cEnd (hStr h s).cv),.int .u64 (hStr h s).cb]) rfl rfl hst (by simp [kStripe]) (by simp [kStripe]) (hStr_get hs) rfl (by simp [Value.oneCell']) (fun t' c _ ⟨v1,v2,v3,v4,e,g1,g2,g3,g4⟩=>⟨v1,v2,v3,v4,by rw [e]; rfl,g1,g2,g3,g4⟩) sz147 rfl nofun (.inr (.inr (.inr rfl)))) (fun _ _ ⟨s,_⟩=>⟨hb.a s,trivial⟩) ?_
 rintro _ t4 ⟨s4,hst2⟩
 obtain ⟨hac,hb⟩:=Q2 (hac.n s4) (hb.n s4)
 have hf:=fun i hi=>(hf i hi).step s4 nofun (fun _=>nofun) (fun _=>nofun) nofun
 exact DL.D<|WQ.end_ rfl .nil (IsHall.mk_set (h:=hDid h who 4 (plc s 2)) hb hst2 hac hf hs rfl)
theorem hall_Snap {b s:Nat} {h:HallS} (who:Int) (t:TW) (hH:IsHall t b h) (ha:h.acts.length ≤ 900000) (hs:s < h.strs.length) (hs8:h.strs.length ≤ 8)  : Cal 252 [.pointer (some ⟨b,0,none⟩),.int .i64 who,.int .i64 (s:Int)] t (fun z=>z = .hall ∨ z = .acts) (fun r t' => (∃ A c A' c', r = .agg #[.slice A (hStr h s).snap.keys.length c,.slice A' (hStr h s).snap.vals.length c'] ∧ Sl t' kStr (.slice A (hStr h s).snap.keys.length c) (hStr h s).snap.keys ∧ Sl t' kEntry (.slice A' (hStr h s).snap.vals.length c') (hStr h s).snap.vals) ∧ IsHall t' b (hSnap h who s)):=by
 refine Cal.en Tryz.func252 rfl Tryz.ntmps252<|WC.rs<|WL.e (Ef.al (.loc 6) zr155) ?_
 rintro _ t1 ⟨b6,rfl,s1,hb6,nb6,mb6⟩
 have hH:=hH.n s1
 refine WL.go<|WC.rs<|WL.m rfl<|WL.m rfl<|WL.m rfl<|WL.e (Ef.call rfl en105 (hall_Place _ _ _ (by omega) (by omega) (by omega) (by omega)) (fun _ h=>h.elim)) ?_
 rintro _ t2 ⟨s2,rfl⟩
 obtain ⟨hH,hb6⟩:=Q2 (hH.n s2) (hb6.n s2)
 refine WL.e (Ef.call rfl en84 (hall_did who 3 (plc s 3) _ hH (by omega)) (fun _ h=>h)) ?_
 rintro _ t3 ⟨s3,hH⟩
 have hb6:=hb6.n s3
 obtain ⟨⟨bs,cs,Aa,ca,hb,hst,hac⟩,hf⟩:=hH
 have hsd:s < (hDid h who 3 (plc s 3)).strs.length:=hs
 refine WL.go<|WC.rs<|WL.m rfl<|WL.f (Fr.ncP rfl)<|WL.q 10 rfl fa144_2<|WL.r (Rd.ld rfl sc141 (hb.cell rfl))<|WL.m rfl ?_
 obtain ⟨bq,cq,dq,eq_,hcq,hRq,hAq,hlbq,hgq⟩:=hst.at_ (hStr_get hs)
 obtain ⟨eqb,_,rfl⟩:=Value.slice.inj eq_
 obtain ⟨rfl,_⟩:=Addr.mk.inj (Option.some.inj eqb)
 obtain ⟨v1,v2,v3,v4,rfl,g1,g2,g3,g4⟩:=hRq
 rw [← Nat.zero_add (s * kStripe.k)] at hAq
 obtain ⟨A5,c5,rfl,_⟩:=g1.form
 obtain ⟨A6,c6,rfl,_⟩:=g2.form
 refine WL.f (Fr.ix rfl rfl sl141 (by omega) (by omega))<|WL.f (Fr.fa rfl fa157_2)<|WL.r (Rd.la rfl ag155 (hAq.part (vs:=[.slice A5 (hStr h s).snap.keys.length c5,.slice A6 (hStr h s).snap.vals.length c6]) 3 rfl))<|WL.e0 (Ef.T [.slice A5 (hStr h s).snap.keys.length c5,.slice A6 (hStr h s).snap.vals.length c6] rfl rfl hb6 sz155 (.inl nb6)) ?_
 rintro _ t4 ⟨u4,s4,hb6'⟩
 have hb6:Bk t4 b6 [.slice A5 (hStr h s).snap.keys.length c5,.slice A6 (hStr h s).snap.vals.length c6] _ _:=hb6'
 clear hb6'
 obtain ⟨hac,hb,hst⟩:=Q3 (hac.n s4) (hb.n s4) (hst.n s4)
 have hf:=fun i hi=>(hf i hi).step s4 nofun (fun _=>nofun) (fun _=>nofun) nofun
 obtain ⟨g1,g2⟩:=Q2 (g1.n s4) (g2.n s4)
 exact WL.go<|WC.ret<|WQ.ret rfl (.cell rfl (loadVar_ag ag155 rfl (hb6.at (vs:=[.slice A5 (hStr h s).snap.keys.length c5,.slice A6 (hStr h s).snap.vals.length c6]) rfl)) .nil) (⟨⟨_,_,_,_,rfl,g1,g2⟩,⟨_,_,_,_,hb,hst,hac⟩,hf⟩)
theorem hall_Read {b s:Nat} {h:HallS} (who:Int) (t:TW) (hH:IsHall t b h) (ha:h.acts.length ≤ 900000) (hs:s < h.strs.length) (hs8:h.strs.length ≤ 8)  : Cal 255 [.pointer (some ⟨b,0,none⟩),.int .i64 who,.int .i64 (s:Int)] t (fun z=>z = .hall ∨ z = .acts) (fun r t' => (∃ A c A' c', r = .agg #[.slice A (hStr h s).book.keys.length c,.slice A' (hStr h s).book.vals.length c'] ∧ Sl t' kStr (.slice A (hStr h s).book.keys.length c) (hStr h s).book.keys ∧ Sl t' kEntry (.slice A' (hStr h s).book.vals.length c') (hStr h s).book.vals) ∧ IsHall t' b (hRead h who s)):=by
 refine Cal.en Tryz.func255 rfl Tryz.ntmps255<|WC.rs<|WL.e (Ef.al (.loc 6) zr155) ?_
 rintro _ t1 ⟨b6,rfl,s1,hb6,nb6,mb6⟩
 have hH:=hH.n s1
 refine WL.go<|WC.rs<|WL.m rfl<|WL.m rfl<|WL.m rfl<|WL.e (Ef.call rfl en105 (hall_Place _ _ _ (by omega) (by omega) (by omega) (by omega)) (fun _ h=>h.elim)) ?_
 rintro _ t2 ⟨s2,rfl⟩
 obtain ⟨hH,hb6⟩:=Q2 (hH.n s2) (hb6.n s2)
 refine WL.e (Ef.call rfl en84 (hall_did who 1 (plc s 4) _ hH (by omega)) (fun _ h=>h)) ?_
 rintro _ t3 ⟨s3,hH⟩
 have hb6:=hb6.n s3
 obtain ⟨⟨bs,cs,Aa,ca,hb,hst,hac⟩,hf⟩:=hH
 have hsd:s < (hDid h who 1 (plc s 4)).strs.length:=hs
 refine WL.go<|WC.rs<|WL.m rfl<|WL.f (Fr.ncP rfl)<|WL.q 10 rfl fa144_2<|WL.r (Rd.ld rfl sc141 (hb.cell rfl))<|WL.m rfl ?_
 obtain ⟨bq,cq,dq,eq_,hcq,hRq,hAq,hlbq,hgq⟩:=hst.at_ (hStr_get hs)
 obtain ⟨eqb,_,rfl⟩:=Value.slice.inj eq_
 obtain ⟨rfl,_⟩:=Addr.mk.inj (Option.some.inj eqb)
 obtain ⟨v1,v2,v3,v4,rfl,g1,g2,g3,g4⟩:=hRq
 rw [← Nat.zero_add (s * kStripe.k)] at hAq
 obtain ⟨A5,c5,rfl,_⟩:=g3.form
 obtain ⟨A6,c6,rfl,_⟩:=g4.form
 refine WL.f (Fr.ix rfl rfl sl141 (by omega) (by omega))<|WL.f (Fr.fa rfl fa157_3)<|WL.r (Rd.la rfl ag155 (hAq.part (vs:=[.slice A5 (hStr h s).book.keys.length c5,.slice A6 (hStr h s).book.vals.length c6]) 5 rfl))<|WL.e0 (Ef.T [.slice A5 (hStr h s).book.keys.length c5,.slice A6 (hStr h s).book.vals.length c6] rfl rfl hb6 sz155 (.inl nb6)) ?_
 rintro _ t4 ⟨u4,s4,hb6'⟩
 have hb6:Bk t4 b6 [.slice A5 (hStr h s).book.keys.length c5,.slice A6 (hStr h s).book.vals.length c6] _ _:=hb6'
 clear hb6'
 obtain ⟨hac,hb,hst⟩:=Q3 (hac.n s4) (hb.n s4) (hst.n s4)
 have hf:=fun i hi=>(hf i hi).step s4 nofun (fun _=>nofun) (fun _=>nofun) nofun
 obtain ⟨g3,g4⟩:=Q2 (g3.n s4) (g4.n s4)
 exact WL.go<|WC.ret<|WQ.ret rfl (.cell rfl (loadVar_ag ag155 rfl (hb6.at (vs:=[.slice A5 (hStr h s).book.keys.length c5,.slice A6 (hStr h s).book.vals.length c6]) rfl)) .nil) (⟨⟨_,_,_,_,rfl,g3,g4⟩,⟨_,_,_,_,hb,hst,hac⟩,hf⟩)
theorem hall_Stripe {b:Nat} {h:HallS} (u:ByteArray) (t:TW) (hH:IsHall t b h) (hu:u.size ≤ 1000000) (hn:h.cfg.stripes ≤ 1000000):Cal 89 [.pointer (some ⟨b,0,none⟩),.string u] t No (fun r t' => r = .int .i64 (stripeOf u h.cfg.stripes)):=by
 obtain ⟨⟨bs,cs,Aa,ca,hb,hst,hac⟩,hf⟩:=hH
 refine Cal.en Tryz.func89 rfl Tryz.ntmps89<|WC.rs<|WL.a rfl<|WL.go<|WC.rs<|WL.m rfl<|WL.m rfl<|WL.f (Fr.ncP rfl)<|WL.q 0 rfl fa144_0<|WL.q 0 rfl fa24_0 ?_
 refine WL.r (Rd.ld rfl sc3 (hb.cell rfl))<|WL.e (Ef.call rfl en111 (hash_Stripe _ _ _ hu hn) (fun _ h=>h.elim)) ?_
 rintro _ t1 ⟨s1,rfl⟩
 have hf:=fun i hi=>(hf i hi).step s1 id (fun _=>id) (fun _=>id) id
 exact WL.a rfl<|WL.go<|WC.ret<|WQ.ret rfl (.tmp rfl .nil) (rfl)
theorem hall_Publish {b s:Nat} {h:HallS} (who:Int) (t:TW) (hH:IsHall t b h) (ha:h.acts.length ≤ 899000) (hs:s < h.strs.length) (hs8:h.strs.length ≤ 8)  : Cal 164 [.pointer (some ⟨b,0,none⟩),.int .i64 who,.int .i64 (s:Int)] t (fun z=>z = .hall ∨ z = .acts ∨ z = .strs) (fun r t' => IsHall t' b (hPublish h who s)):=by
 refine Cal.en Tryz.func164 rfl Tryz.ntmps164<|WC.rs<|WL.m rfl<|WL.m rfl<|WL.m rfl<|WL.e (Ef.call rfl en105 (hall_Place _ _ _ (by omega) (by omega) (by omega) (by omega)) (fun _ h=>h.elim)) ?_
 rintro _ t1 ⟨s1,rfl⟩
 have hH:=hH.n s1
 refine WL.e (Ef.call rfl en84 (hall_did who 1 (plc s 4) _ hH (by omega)) (fun _ h=>h.elim .inl (fun h=>.inr (.inl h)))) ?_
 rintro _ t2 ⟨s2,hH⟩
 refine WL.go<|WC.rs<|WL.m rfl<|WL.m rfl<|WL.m rfl<|WL.e (Ef.call rfl en105 (hall_Place _ _ _ (by omega) (by omega) (by omega) (by omega)) (fun _ h=>h.elim)) ?_
 rintro _ t3 ⟨s3,rfl⟩
 have hH:=hH.n s3
 refine WL.e (Ef.call rfl en84 (hall_did who 4 (plc s 3) _ hH (by simp [hDid]; omega)) (fun _ h=>h.elim .inl (fun h=>.inr (.inl h)))) ?_
 rintro _ t4 ⟨s4,hH⟩
 obtain ⟨⟨bs,cs,Aa,ca,hb,hst,hac⟩,hf⟩:=hH
 have hsd:s < (hDid (hDid h who 1 (plc s 4)) who 4 (plc s 3)).strs.length:=hs
 refine WL.go<|WC.dr (fun w=>At w b 10 [.slice (some ⟨bs,0,none⟩) h.strs.length cs] ∧ True) .body (⟨hb.at rfl,trivial⟩) ?_
 obtain ⟨hac,hb,hst⟩:=Q3 (hac.n (TW.drew_step _)) (hb.n (TW.drew_step _)) (hst.n (TW.drew_step _))
 have hf:=fun i hi=>(hf i hi).step (TW.drew_step _) id (fun _=>id) (fun _=>id) id
 refine DL.m 0 rfl rfl<|DL.fx 1 rfl (Fr.ncP rfl)<|DL.fx 2 rfl (Fr.q 10 rfl fa144_2)<|DL.m 4 rfl rfl<|DL.m 5 rfl rfl<|DL.fx 6 rfl (Fr.ncP rfl)<|DL.fx 7 rfl (Fr.q 10 rfl fa144_2)<|DL.m 9 rfl rfl<|DL.hx 3 rfl (fun w hw=>Rd.ld rfl sc141 (hw.1.one rfl))<|DL.rx 8 rfl (Rd.ld rfl sc141 (hb.cell rfl)) ?_
 obtain ⟨bq,cq,dq,eq_,hcq,hRq,hAq,hlbq,hgq⟩:=hst.at_ (hStr_get hs)
 obtain ⟨eqb,_,rfl⟩:=Value.slice.inj eq_
 obtain ⟨rfl,_⟩:=Addr.mk.inj (Option.some.inj eqb)
 obtain ⟨v1,v2,v3,v4,rfl,g1,g2,g3,g4⟩:=hRq
 rw [← Nat.zero_add (s * kStripe.k)] at hAq
 obtain ⟨A5,c5,rfl,_⟩:=g3.form
 obtain ⟨A6,c6,rfl,_⟩:=g4.form
 refine DL.fx 10 rfl (Fr.ix rfl rfl sl141 (by omega) (by omega))<|DL.fx 11 rfl (Fr.fa rfl fa157_3)<|DL.rx 12 rfl (Rd.la rfl ag155 (hAq.part (vs:=[.slice A5 (hStr h s).book.keys.length c5,.slice A6 (hStr h s).book.vals.length c6]) 5 rfl))<|DL.fx 13 rfl (Fr.ix rfl rfl sl141 (by omega) (by omega))<|DL.fx 14 rfl (Fr.fa rfl fa157_2)<|DL.e0x 15 rfl (Ef.stG (i:=s) (j:=3) (x0:=hStr h s) (z:={ hStr h s with snap:=(hStr h s).book }) (vs:=[.slice A5 (hStr h s).book.keys.length c5,.slice A6 (hStr h s).book.vals.length c6]) rfl rfl hst (by simp [kStripe]) (by simp [kStripe]) (hStr_get hs) rfl (by simp [Value.oneCell']) (fun t' c st ⟨w1,w2,w3,w4,e,k1,k2,k3,k4⟩=>⟨_,_,w3,w4,by rw [e]; rfl,g3.step st nofun,g4.step st nofun,k3,k4⟩) sz155 rfl nofun (.inr (.inr (.inr rfl)))) (fun _ _ ⟨s,_⟩=>⟨hb.a s,trivial⟩) ?_
 rintro _ t5 ⟨s5,hst2⟩
 obtain ⟨hac,hb⟩:=Q2 (hac.n s5) (hb.n s5)
 have hf:=fun i hi=>(hf i hi).step s5 nofun (fun _=>nofun) (fun _=>nofun) nofun
 exact DL.D<|WQ.end_ rfl .nil (IsHall.mk_set (h:=hDid (hDid h who 1 (plc s 4)) who 4 (plc s 3)) hb hst2 hac hf hs rfl)
theorem hall_write {b s:Nat} {h:HallS} (who:Int) (t:TW) (hH:IsHall t b h) (ha:h.acts.length ≤ 899000) (hs:s < h.strs.length) (hs8:h.strs.length ≤ 8)  : Cal 86 [.pointer (some ⟨b,0,none⟩),.int .i64 who,.int .i64 (s:Int)] t (fun z=>z = .hall ∨ z = .acts) (fun r t' => ∃ bs cs Aa ca,r = .pointer (some ⟨bs,0 + s * 8,none⟩) ∧ Bk t' b (cfgC h.cfg ++ timeC h.time ++ [.slice (some ⟨bs,0,none⟩) h.strs.length cs,.slice Aa (hWr h who s).acts.length ca]) 144 .hall ∧ Row t' .strs 0 157 kStripe (.slice (some ⟨bs,0,none⟩) h.strs.length cs) h.strs ∧ Row t' .acts 0 222 kAct (.slice Aa (hWr h who s).acts.length ca) (hWr h who s).acts ∧ ∀ i,i < h.strs.length → IsFeed t' i (hStr h i).fp (h.feed i)):=by
 refine Cal.en Tryz.func86 rfl Tryz.ntmps86<|WC.rs<|WL.a rfl<|WL.go<|WC.rs<|WL.m rfl<|WL.m rfl<|WL.m rfl<|WL.e (Ef.call rfl en105 (hall_Place _ _ _ (by omega) (by omega) (by omega) (by omega)) (fun _ h=>h.elim)) ?_
 rintro _ t1 ⟨s1,rfl⟩
 have hH:=hH.n s1
 refine WL.e (Ef.call rfl en84 (hall_did who 2 (plc s 4) _ hH (by omega)) (fun _ h=>h)) ?_
 rintro _ t2 ⟨s2,hH⟩
 obtain ⟨⟨bs,cs,Aa,ca,hb,hst,hac⟩,hf⟩:=hH
 have hsd:s < (hDid h who 2 (plc s 4)).strs.length:=hs
 refine WL.go<|WC.rs<|WL.m rfl<|WL.f (Fr.ncP rfl)<|WL.q 10 rfl fa144_2<|WL.r (Rd.ld rfl sc141 (hb.cell rfl))<|WL.m rfl<|WL.f (Fr.ix rfl rfl sl141 (by omega) (by omega))<|WL.a rfl<|WL.go ?_
 exact WC.ret<|WQ.ret rfl (.tmp rfl .nil) (⟨bs,cs,Aa,ca,rfl,hb,hst,hac,hf⟩)
theorem feeds_set {t t' : TW} {T:Tag → Prop} {h:HallS} {s:Nat} {f:FeedS} (hf:∀ i,i < h.strs.length → IsFeed t i (hStr h i).fp (h.feed i)) (hn:IsFeed t' s (hStr h s).fp f) (st:Step T t t') (h0:∀ i,i ≠ s → ¬ T (.feed i)) (h1:∀ i k,i ≠ s → ¬ T (.ring i k)) (h2:∀ i k,i ≠ s → ¬ T (.rrow i k)) (h3:¬ T .fz) :
  ∀ i,i < h.strs.length → IsFeed t' i (hStr h i).fp (setF h.feed s f i):=fun i hi=>by
 unfold setF
 by_cases e:i = s
 ·subst e
  rw [if_pos rfl]
  exact hn
 ·rw [if_neg e]
  exact (hf i hi).step st (h0 i e) (fun k=>h1 i k e) (fun k=>h2 i k e) h3
theorem hall_Drain {b s:Nat} {h:HallS} (who:Nat) (t:TW) (hH:IsHall t b h) (ha:h.acts.length ≤ 899000) (hs:s < h.strs.length) (hs8:h.strs.length ≤ 8) (hw8:who < 8) (hq:((h.feed s).q who).l.length ≤ 900000):Cal 119 [.pointer (some ⟨b,0,none⟩),.int .i64 (who:Int),.int .i64 (s:Int)] t (fun z=>z = .hall ∨ z = .acts ∨ z = .ring s who) (fun r t' => ∃ V,r = .tuple #[V,.bool ((h.feed s).q who).lost] ∧ Sl t' kEvent V ((h.feed s).q who).l ∧ IsHall t' b (hDrain h who s)):=by
 refine Cal.en Tryz.func119 rfl Tryz.ntmps119<|WC.rs<|WL.a rfl<|WL.a rfl<|WL.go<|WC.rs<|WL.m rfl<|WL.m rfl<|WL.m rfl<|WL.e (Ef.call rfl en86 (hall_write (who:Int) _ hH ha hs hs8) (fun _ h=>h.elim .inl (fun h=>.inr (.inl h)))) ?_
 rintro _ t1 ⟨s1,bs,cs,Aa,ca,rfl,hb,hst,hac,hf⟩
 refine WL.f (Fr.ncP rfl)<|WL.f (Fr.fa rfl fa157_4) ?_
 obtain ⟨bq,cq,dq,eq_,hcq,hRq,hAq,hlbq,hgq⟩:=hst.at_ (hStr_get hs)
 obtain ⟨eqb,_,rfl⟩:=Value.slice.inj eq_
 obtain ⟨rfl,_⟩:=Addr.mk.inj (Option.some.inj eqb)
 obtain ⟨v1,v2,v3,v4,rfl,g1,g2,g3,g4⟩:=hRq
 rw [← Nat.zero_add (s * kStripe.k)] at hAq
 refine WL.r (Rd.ld rfl sc149 ((hAq.part (vs:=[.pointer (some ⟨(hStr h s).fp,0,none⟩)]) 7 rfl).one rfl))<|WL.m rfl ?_
 have hfo:=hf
 clear hf
 refine WL.e (Ef.call rfl en158 (feed_Drain who _ (hfo s hs) hw8 hq) (fun _ h=>.inr (.inr h))) ?_
 rintro _ t2 ⟨s2,V,rfl,hV,hfn⟩
 obtain ⟨hac,hb,hst⟩:=Q3 (hac.n s2) (hb.n s2) (hst.n s2)
 have hf:=feeds_set hfo hfn s2 (fun _ _=>nofun) (fun i k e h=>e (Tag.ring.inj h).1) (fun _ _ _=>nofun) nofun
 exact WL.f (Fr.ext rfl rfl)<|WL.f (Fr.ext rfl rfl)<|WL.a rfl<|WL.a rfl<|WL.go<|WC.ret<|WQ.ret rfl (.tmp rfl (.tmp rfl .nil)) (⟨V,rfl,hV,⟨_,_,_,_,hb,hst,hac⟩,hf⟩)
theorem hall_Watch {b s:Nat} {h:HallS} (who:Int) (u:ByteArray) (on:Bool) (t:TW) (hH:IsHall t b h) (ha:h.acts.length ≤ 899000) (hs:s < h.strs.length) (hs8:h.strs.length ≤ 8) (hk7:(h.feed s).ks.length ≤ 700000):Cal 127 [.pointer (some ⟨b,0,none⟩),.int .i64 who,.int .i64 (s:Int),.string u,.bool on] t (fun z=>z = .hall ∨ z = .acts ∨ z = .feed s) (fun r t' => IsHall t' b (hWatch h who s u on)):=by
 refine Cal.en Tryz.func127 rfl Tryz.ntmps127<|WC.rs<|WL.m rfl<|WL.m rfl<|WL.m rfl<|WL.e (Ef.call rfl en86 (hall_write who _ hH ha hs hs8) (fun _ h=>h.elim .inl (fun h=>.inr (.inl h)))) ?_
 rintro _ t1 ⟨s1,bs,cs,Aa,ca,rfl,hb,hst,hac,hf⟩
 refine WL.f (Fr.ncP rfl)<|WL.f (Fr.fa rfl fa157_4) ?_
 obtain ⟨bq,cq,dq,eq_,hcq,hRq,hAq,hlbq,hgq⟩:=hst.at_ (hStr_get hs)
 obtain ⟨eqb,_,rfl⟩:=Value.slice.inj eq_
 obtain ⟨rfl,_⟩:=Addr.mk.inj (Option.some.inj eqb)
 obtain ⟨v1,v2,v3,v4,rfl,g1,g2,g3,g4⟩:=hRq
 rw [← Nat.zero_add (s * kStripe.k)] at hAq
 refine WL.r (Rd.ld rfl sc149 ((hAq.part (vs:=[.pointer (some ⟨(hStr h s).fp,0,none⟩)]) 7 rfl).one rfl))<|WL.a rfl<|WL.go<|WC.rs<|WL.m rfl<|WL.go ?_
 refine WC.condS rfl (fun hcond18=>?_) (fun hcond18=>?_)
 focus
  have ho:on = true:=hcond18
  subst ho
  refine WC.rg<|WL.m rfl<|WL.m rfl<|WL.m rfl ?_
  have hfo:=hf
  clear hf
  refine WL.e (Ef.call rfl en160 (feed_Watch who u _ (hfo s hs) hk7) (fun _ h=>.inr (.inr h))) ?_
 rotate_left
 focus
  have ho:on = false:=hcond18
  subst ho
  refine WC.rg<|WL.m rfl<|WL.m rfl<|WL.m rfl ?_
  have hfo:=hf
  clear hf
  refine WL.e (Ef.call rfl en161 (feed_Unwatch who u _ (hfo s hs) hk7) (fun _ h=>.inr (.inr h))) ?_
 all_goals
  rintro _ t2 ⟨s2,hfn⟩
  obtain ⟨hac,hb,hst⟩:=Q3 (hac.n s2) (hb.n s2) (hst.n s2)
  have hf:=feeds_set hfo hfn s2 (fun i e h=>e (Tag.feed.inj h)) (fun _ _ _=>nofun) (fun _ _ _=>nofun) nofun
  exact WL.nil<|WQ.end_ rfl .nil (⟨⟨_,_,_,_,hb,hst,hac⟩,hf⟩)
theorem bWrite_ch (b:Book) (x:Opr) (now most:Int):(bWrite b x now most).2.1.length ≤ 1:=settle_ch _ _ _ _
theorem sweep_ch {b:Book} {n m:Nat} (h:BookLe b n m) (now:Int):(bSweep b now).2.length ≤ b.keys.length:=by
 rw [← sweepAcc_all now (Nat.le_refl _)]
 exact (sweepAcc_le h now _).2
theorem hall_Write {b s:Nat} {h:HallS} (who:Int) (x:Opr) (uv:Value) (tm:Time) (t:TW) (hH:IsHall t b h) (ha:h.acts.length ≤ 899000) (hs:s < h.strs.length) (hs8:h.strs.length ≤ 8) (hB:BookOk (hStr h s).book) (htn0:0 ≤ tm.now) (htn1:tm.now ≤ 18446744073709551615) (ht0:0 ≤ x.ttl) (ht1:x.ttl ≤ 18446744073709551615) (hks:(h.feed s).ks.length ≤ 900000) (hok:QOk (h.feed s).q):Cal 91 [.pointer (some ⟨b,0,none⟩),.int .i64 who,.int .i64 (s:Int),.agg (opC x uv).toArray,.agg (timeC tm).toArray] t (fun z=>z = .hall ∨ z = .acts ∨ z = .strs ∨ ∃ k,z = .ring s k ∨ z = .rrow s k) (fun r t' => r = .int .i64 (hWrite h who s x tm).2 ∧ IsHall t' b (hWrite h who s x tm).1):=by
 refine Cal.en Tryz.func91 rfl Tryz.ntmps91<|WC.rs<|WL.e (Ef.bx (.loc 8) (cs:=[.int .i64 x.kind,.string x.user,.int .i64 x.id,.int .i64 x.status,.int .i64 x.prio,.int .u64 x.ttl,uv]) rfl) ?_
 rintro _ t1 ⟨b8,rfl,s1,hb8,nb8,mb8⟩
 have hH:=hH.n s1
 refine WL.e (Ef.bx (.loc 9) (cs:=[.int .u64 tm.now,.int .u64 tm.seq,.bool tm.closed]) rfl) ?_
 rintro _ t2 ⟨b9,rfl,s2,hb9,nb9,mb9⟩
 obtain ⟨hH,hb8⟩:=Q2 (hH.n s2) (hb8.n s2)
 refine WL.a rfl<|WL.go<|WC.rs<|WL.m rfl<|WL.m rfl<|WL.m rfl<|WL.e (Ef.call rfl en86 (hall_write who _ hH ha hs hs8) (fun _ h=>h.elim .inl (fun h=>.inr (.inl h)))) ?_
 rintro _ t3 ⟨s3,bs,cs,Aa,ca,rfl,hb,hst,hac,hf⟩
 obtain ⟨hb8,hb9⟩:=Q2 (hb8.n s3) (hb9.n s3)
 refine WL.a rfl<|WL.go<|WC.seq<|WC.rs<|WL.q 2 rfl fa42_2<|WL.r (Rd.ld rfl sc4 (hb9.cell rfl))<|WL.go ?_
 refine WC.condS rfl (fun hcond20=>?_) (fun hcond20=>?_)
 ·have e1:hWrite h who s x tm = (hWr h who s,5):=by unfold hWrite; rw [if_pos hcond20]
  rw [e1]
  exact WC.rs<|WL.a rfl<|WL.go<|WC.ret<|WQ.tr<|WQ.ret rfl (.tmp rfl .nil) (⟨rfl,⟨_,_,_,_,hb,hst,hac⟩,hf⟩)
 have e1:hWrite h who s x tm = (hSet { hWr h who s with feed:=setF h.feed s (fTell (h.feed s) (bWrite (hStr h s).book x tm.now h.cfg.sessions).2.1 tm.seq) } s { hStr h s with book:=(bWrite (hStr h s).book x tm.now h.cfg.sessions).1 },(bWrite (hStr h s).book x tm.now h.cfg.sessions).2.2):=by unfold hWrite; rw [if_neg (by rw [hcond20]; decide)]; rfl
 rw [e1]
 have hcl:(bWrite (hStr h s).book x tm.now h.cfg.sessions).2.1.length ≤ 900000:=Nat.le_trans (bWrite_ch _ _ _ _) (by decide)
 refine WC.skip<|WQ.n<|WC.drs (fun w=>At w b8 0 [.int .i64 x.kind,.string x.user,.int .i64 x.id,.int .i64 x.status,.int .i64 x.prio,.int .u64 x.ttl,uv] ∧ At w b9 0 [.int .u64 tm.now] ∧ At w b 1 [.int .i64 h.cfg.sessions] ∧ True) .body (⟨hb8.at rfl,hb9.at rfl,hb.at rfl,trivial⟩) ?_
 obtain ⟨hac,hb,hb8,hb9,hst⟩:=Q5 (hac.n (TW.drew_step _)) (hb.n (TW.drew_step _)) (hb8.n (TW.drew_step _)) (hb9.n (TW.drew_step _)) (hst.n (TW.drew_step _))
 have hf:=fun i hi=>(hf i hi).step (TW.drew_step _) id (fun _=>id) (fun _=>id) id
 refine DL.m 0 rfl rfl<|DL.fx 1 rfl (Fr.ncP rfl)<|DL.fx 2 rfl (Fr.fa rfl fa157_3)<|DL.fx 5 rfl (Fr.q 0 rfl fa42_0)<|DL.m 7 rfl rfl<|DL.fx 8 rfl (Fr.ncP rfl)<|DL.fx 9 rfl (Fr.q 0 rfl fa144_0)<|DL.fx 10 rfl (Fr.q 1 rfl fa24_1)<|DL.hx 4 rfl (fun w hw=>Rd.la rfl ag56 hw.1)<|DL.hx 6 rfl (fun w hw=>Rd.ld rfl sc22 (hw.2.1.one rfl)) ?_
 refine DL.hx 11 rfl (fun w hw=>Rd.ld rfl sc3 (hw.2.2.1.one rfl)) ?_
 refine DL.e2 (i:=3) (j:=17) (by kernel_rfl) ?_ ?_
 focus
  obtain ⟨bq,cq,dq,eq_,hcq,hRq,hAq,hlbq,hgq⟩:=hst.at_ (hStr_get hs)
  obtain ⟨eqb,_,rfl⟩:=Value.slice.inj eq_
  obtain ⟨rfl,_⟩:=Addr.mk.inj (Option.some.inj eqb)
  obtain ⟨v1,v2,v3,v4,rfl,g1,g2,g3,g4⟩:=hRq
  rw [← Nat.zero_add (s * kStripe.k)] at hAq
  obtain ⟨A5,c5,rfl,_⟩:=g3.form
  obtain ⟨A6,c6,rfl,_⟩:=g4.form
  refine DOp.r rfl (Rd.la rfl ag155 (hAq.part (vs:=[.slice A5 (hStr h s).book.keys.length c5,.slice A6 (hStr h s).book.vals.length c6]) 5 rfl)) ?_
  refine DL.e2 (i:=12) (j:=17) (by kernel_rfl) ?_ ?_
  focus
   refine DOp.e rfl (Ef.call rfl en112 (book_Write _ _ uv (hStr h s).book x tm.now h.cfg.sessions _ g3 g4 hB htn0 htn1 ht0 ht1) (fun _ h=>h.elim)) (fun _ _ ⟨s,_⟩=>⟨hb8.a s,hb9.a s,hb.a s,trivial⟩) ?_
   rintro _ t4 ⟨s4,A8,c8,A9,c9,C,rfl,h8,h9,hC⟩
   obtain ⟨hac,hb,hb8,hb9,hst⟩:=Q5 (hac.n s4) (hb.n s4) (hb8.n s4) (hb9.n s4) (hst.n s4)
   have hf:=fun i hi=>(hf i hi).step s4 id (fun _=>id) (fun _=>id) id
   refine DL.m 13 rfl rfl<|DL.fx 14 rfl (Fr.ext rfl rfl)<|DL.fx 15 rfl (Fr.ext rfl rfl)<|DL.fx 16 rfl (Fr.ext rfl rfl)<|DL.ex 17 rfl (Ef.al (.loc 12) zr155) (fun _ _ ⟨_,_,s,_⟩=>⟨hb8.a s,hb9.a s,hb.a s,trivial⟩) ?_
   rintro _ t5 ⟨b12,rfl,s5,hb12,nb12,mb12⟩
   obtain ⟨hac,hb,hb8,hb9,hst⟩:=Q5 (hac.n s5) (hb.n s5) (hb8.n s5) (hb9.n s5) (hst.n s5)
   have hf:=fun i hi=>(hf i hi).step s5 id (fun _=>id) (fun _=>id) id
   obtain ⟨h8,h9,hC⟩:=Q3 (h8.n s5) (h9.n s5) (hC.n s5)
   refine DL.e0x 18 rfl (Ef.T [.slice A8 (bWrite (hStr h s).book x tm.now h.cfg.sessions).1.keys.length c8,.slice A9 (bWrite (hStr h s).book x tm.now h.cfg.sessions).1.vals.length c9] rfl rfl hb12 sz155 (.inl nb12)) (fun _ _ ⟨_,s,_⟩=>⟨hb8.a s,hb9.a s,hb.a s,trivial⟩) ?_
   rintro _ t6 ⟨u6,s6,hb12'⟩
  rotate_left
  focus
   refine DOp.e rfl (Ef.al (.loc 12) zr155) (fun _ _ ⟨_,_,s,_⟩=>⟨hb8.a s,hb9.a s,hb.a s,trivial⟩) ?_
   rintro _ t9 ⟨b12,rfl,s9,hb12,nb12,mb12⟩
   obtain ⟨hac,hb,hb8,hb9,hst⟩:=Q5 (hac.n s9) (hb.n s9) (hb8.n s9) (hb9.n s9) (hst.n s9)
   have hf:=fun i hi=>(hf i hi).step s9 id (fun _=>id) (fun _=>id) id
   obtain ⟨g3,g4⟩:=Q2 (g3.n s9) (g4.n s9)
   refine DL.ex 12 rfl (Ef.call rfl en112 (book_Write _ _ uv (hStr h s).book x tm.now h.cfg.sessions _ g3 g4 hB htn0 htn1 ht0 ht1) (fun _ h=>h.elim)) (fun _ _ ⟨s,_⟩=>⟨hb8.a s,hb9.a s,hb.a s,trivial⟩) ?_
   rintro _ t10 ⟨s10,A8,c8,A9,c9,C,rfl,h8,h9,hC⟩
   obtain ⟨hac,hb,hb8,hb9,hst⟩:=Q5 (hac.n s10) (hb.n s10) (hb8.n s10) (hb9.n s10) (hst.n s10)
   have hf:=fun i hi=>(hf i hi).step s10 id (fun _=>id) (fun _=>id) id
   have hb12:=hb12.n s10
   refine DL.m 13 rfl rfl<|DL.fx 14 rfl (Fr.ext rfl rfl)<|DL.fx 15 rfl (Fr.ext rfl rfl)<|DL.fx 16 rfl (Fr.ext rfl rfl)<|DL.e0x 18 rfl (Ef.T [.slice A8 (bWrite (hStr h s).book x tm.now h.cfg.sessions).1.keys.length c8,.slice A9 (bWrite (hStr h s).book x tm.now h.cfg.sessions).1.vals.length c9] rfl rfl hb12 sz155 (.inl nb12)) (fun _ _ ⟨_,s,_⟩=>⟨hb8.a s,hb9.a s,hb.a s,trivial⟩) ?_
   rintro _ t6 ⟨u11,s6,hb12'⟩
 rotate_left 2
 focus
  refine DOp.e rfl (Ef.al (.loc 12) zr155) (fun _ _ ⟨_,_,s,_⟩=>⟨hb8.a s,hb9.a s,hb.a s,trivial⟩) ?_
  rintro _ t14 ⟨b12,rfl,s14,hb12,nb12,mb12⟩
  obtain ⟨hac,hb,hb8,hb9,hst⟩:=Q5 (hac.n s14) (hb.n s14) (hb8.n s14) (hb9.n s14) (hst.n s14)
  have hf:=fun i hi=>(hf i hi).step s14 id (fun _=>id) (fun _=>id) id
  obtain ⟨bq,cq,dq,eq_,hcq,hRq,hAq,hlbq,hgq⟩:=hst.at_ (hStr_get hs)
  obtain ⟨eqb,_,rfl⟩:=Value.slice.inj eq_
  obtain ⟨rfl,_⟩:=Addr.mk.inj (Option.some.inj eqb)
  obtain ⟨v1,v2,v3,v4,rfl,g1,g2,g3,g4⟩:=hRq
  rw [← Nat.zero_add (s * kStripe.k)] at hAq
  obtain ⟨A5,c5,rfl,_⟩:=g3.form
  obtain ⟨A6,c6,rfl,_⟩:=g4.form
  refine DL.rx 3 rfl (Rd.la rfl ag155 (hAq.part (vs:=[.slice A5 (hStr h s).book.keys.length c5,.slice A6 (hStr h s).book.vals.length c6]) 5 rfl))<|DL.ex 12 rfl (Ef.call rfl en112 (book_Write _ _ uv (hStr h s).book x tm.now h.cfg.sessions _ g3 g4 hB htn0 htn1 ht0 ht1) (fun _ h=>h.elim)) (fun _ _ ⟨s,_⟩=>⟨hb8.a s,hb9.a s,hb.a s,trivial⟩) ?_
  rintro _ t15 ⟨s15,A8,c8,A9,c9,C,rfl,h8,h9,hC⟩
  obtain ⟨hac,hb,hb8,hb9,hst⟩:=Q5 (hac.n s15) (hb.n s15) (hb8.n s15) (hb9.n s15) (hst.n s15)
  have hf:=fun i hi=>(hf i hi).step s15 id (fun _=>id) (fun _=>id) id
  have hb12:=hb12.n s15
  refine DL.m 13 rfl rfl<|DL.fx 14 rfl (Fr.ext rfl rfl)<|DL.fx 15 rfl (Fr.ext rfl rfl)<|DL.fx 16 rfl (Fr.ext rfl rfl)<|DL.e0x 18 rfl (Ef.T [.slice A8 (bWrite (hStr h s).book x tm.now h.cfg.sessions).1.keys.length c8,.slice A9 (bWrite (hStr h s).book x tm.now h.cfg.sessions).1.vals.length c9] rfl rfl hb12 sz155 (.inl nb12)) (fun _ _ ⟨_,s,_⟩=>⟨hb8.a s,hb9.a s,hb.a s,trivial⟩) ?_
  rintro _ t6 ⟨u16,s6,hb12'⟩
 all_goals
  have hb12:Bk t6 b12 [.slice A8 (bWrite (hStr h s).book x tm.now h.cfg.sessions).1.keys.length c8,.slice A9 (bWrite (hStr h s).book x tm.now h.cfg.sessions).1.vals.length c9] _ _:=hb12'
  clear hb12'
  obtain ⟨hac,hb,hb9,hst⟩:=Q4 (hac.n s6) (hb.n s6) (hb9.n s6) (hst.n s6)
  have hf:=fun i hi=>(hf i hi).step s6 nofun (fun _=>nofun) (fun _=>nofun) nofun
  obtain ⟨h8,h9,hC⟩:=Q3 (h8.n s6) (h9.n s6) (hC.n s6)
  refine DL.fx 19 rfl (Fr.as rfl)<|DL.fx 20 rfl (Fr.as rfl)<|DL.D<|WQ.n<|WC.rs<|WL.m rfl<|WL.r (Rd.la rfl ag155 (hb12.at (vs:=[.slice A8 (bWrite (hStr h s).book x tm.now h.cfg.sessions).1.keys.length c8,.slice A9 (bWrite (hStr h s).book x tm.now h.cfg.sessions).1.vals.length c9]) rfl))<|WL.f (Fr.ncP rfl)<|WL.f (Fr.fa rfl fa157_3)<|WL.e0 (Ef.stG (i:=s) (j:=5) (x0:=hStr h s) (z:={ hStr h s with book:=(bWrite (hStr h s).book x tm.now h.cfg.sessions).1 }) (vs:=[.slice A8 ((bWrite (hStr h s).book x tm.now h.cfg.sessions).1).keys.length c8,.slice A9 ((bWrite (hStr h s).book x tm.now h.cfg.sessions).1).vals.length c9]) rfl rfl hst (by simp [kStripe]) (by simp [kStripe]) (hStr_get hs) rfl (by simp [Value.oneCell']) (fun t' c st ⟨w1,w2,w3,w4,e,k1,k2,k3,k4⟩=>⟨w1,w2,_,_,by rw [e]; rfl,k1,k2,h8.step st nofun,h9.step st nofun⟩) sz155 rfl nofun (.inr (.inr (.inr (.inl rfl))))) ?_
  rintro _ t7 ⟨s7,hst2⟩
  obtain ⟨hac,hb,hb9⟩:=Q3 (hac.n s7) (hb.n s7) (hb9.n s7)
  have hf:=fun i hi=>(hf i hi).step s7 nofun (fun _=>nofun) (fun _=>nofun) nofun
  have hC:=hC.n s7
  refine WL.go<|WC.drs (fun w=>At w b9 1 [.int .u64 tm.seq] ∧ True) .body (⟨hb9.at rfl,trivial⟩) ?_
  obtain ⟨hac,hb,hb9⟩:=Q3 (hac.n (TW.drew_step _)) (hb.n (TW.drew_step _)) (hb9.n (TW.drew_step _))
  have hf:=fun i hi=>(hf i hi).step (TW.drew_step _) id (fun _=>id) (fun _=>id) id
  obtain ⟨hC,hst2⟩:=Q2 (hC.n (TW.drew_step _)) (hst2.n (TW.drew_step _))
  refine DL.m 0 rfl rfl<|DL.fx 1 rfl (Fr.ncP rfl)<|DL.fx 2 rfl (Fr.fa rfl fa157_4)<|DL.m 4 rfl rfl<|DL.fx 5 rfl (Fr.q 1 rfl fa42_1)<|DL.hx 6 rfl (fun w hw=>Rd.ld rfl sc22 (hw.1.one rfl)) ?_
  obtain ⟨bq2,cq2,dq2,eq2,hcq2,hRq2,hAq2,_,_⟩:=hst2.at_ (show (h.strs.set s { hStr h s with book:=(bWrite (hStr h s).book x tm.now h.cfg.sessions).1 })[s]? = some { hStr h s with book:=(bWrite (hStr h s).book x tm.now h.cfg.sessions).1 } by rw [List.getElem?_set_self hs])
  obtain ⟨eqb2,_,rfl⟩:=Value.slice.inj eq2
  obtain ⟨rfl,_⟩:=Addr.mk.inj (Option.some.inj eqb2)
  obtain ⟨w1,w2,w3,w4,rfl,_⟩:=hRq2
  rw [← Nat.zero_add (s * kStripe.k)] at hAq2
  refine DL.rx 3 rfl (Rd.ld rfl sc149 ((hAq2.part (vs:=[.pointer (some ⟨(hStr h s).fp,0,none⟩)]) 7 rfl).one rfl)) ?_
  have hfo:=hf
  clear hf
  refine DL.ex 7 rfl (Ef.call rfl en88 (feed_Tell _ ((bWrite (hStr h s).book x tm.now h.cfg.sessions).2.1) tm.seq _ (hfo s hs) hC hcl hks hok) (fun _ h=>.inr (.inr (.inr h)))) (fun _ _ ⟨s,_⟩=>⟨(hb9.step s (by rintro ⟨_,h | h⟩ <;> cases h)).at rfl,trivial⟩) ?_
  rintro _ t8 ⟨s8,hfn⟩
  have hb:=hb.step s8 (by rintro ⟨_,h | h⟩ <;> cases h)
  have hac:=hac.step s8 (by rintro ⟨_,h | h⟩ <;> cases h) (by rintro ⟨_,h | h⟩ <;> cases h)
  have hst2:=hst2.step s8 (by rintro ⟨_,h | h⟩ <;> cases h) (by rintro ⟨_,h | h⟩ <;> cases h)
  have hf:=feeds_set hfo hfn s8 (fun _ _=>by rintro ⟨_,h | h⟩ <;> cases h) (fun i k e=>by rintro ⟨_,h | h⟩; exact e (Tag.ring.inj h).1; cases h) (fun i k e=>by rintro ⟨_,h | h⟩; cases h; exact e (Tag.rrow.inj h).1) (by rintro ⟨_,h | h⟩ <;> cases h)
  exact DL.D<|WQ.n<|WC.rs<|WL.m rfl<|WL.a rfl<|WL.go<|WC.ret<|WQ.ret rfl (.tmp rfl .nil) (⟨rfl,IsHall.mk_set (h:={ hWr h who s with feed:=setF h.feed s (fTell (h.feed s) (bWrite (hStr h s).book x tm.now h.cfg.sessions).2.1 tm.seq) }) hb hst2 hac hf hs rfl⟩)
theorem hall_Sweep {b s:Nat} {h:HallS} (who:Int) (tm:Time) (t:TW) (hH:IsHall t b h) (ha:h.acts.length ≤ 899000) (hs:s < h.strs.length) (hs8:h.strs.length ≤ 8) (hB:BookLe (hStr h s).book 300000 600000) (hks:(h.feed s).ks.length ≤ 900000) (hok:QOk (h.feed s).q):Cal 75 [.pointer (some ⟨b,0,none⟩),.int .i64 who,.int .i64 (s:Int),.agg (timeC tm).toArray] t (fun z=>z = .hall ∨ z = .acts ∨ z = .strs ∨ ∃ k,z = .ring s k ∨ z = .rrow s k) (fun r t' => IsHall t' b (hSweep h who s tm)):=by
 have e1:hSweep h who s tm = hSet { hWr h who s with feed:=setF h.feed s (fTell (h.feed s) (bSweep (hStr h s).book tm.now).2 tm.seq) } s { hStr h s with book:=(bSweep (hStr h s).book tm.now).1 }:=rfl
 rw [e1]
 have hcl:(bSweep (hStr h s).book tm.now).2.length ≤ 900000:=Nat.le_trans (sweep_ch hB _) (by have:=hB.2.1; omega)
 refine Cal.en Tryz.func75 rfl Tryz.ntmps75<|WC.rs<|WL.e (Ef.bx (.loc 7) (cs:=[.int .u64 tm.now,.int .u64 tm.seq,.bool tm.closed]) rfl) ?_
 rintro _ t1 ⟨b7,rfl,s1,hb7,nb7,mb7⟩
 have hH:=hH.n s1
 refine WL.go<|WC.rs<|WL.m rfl<|WL.m rfl<|WL.m rfl<|WL.e (Ef.call rfl en86 (hall_write who _ hH ha hs hs8) (fun _ h=>h.elim .inl (fun h=>.inr (.inl h)))) ?_
 rintro _ t2 ⟨s2,bs,cs,Aa,ca,rfl,hb,hst,hac,hf⟩
 have hb7:=hb7.n s2
 refine WL.a rfl<|WL.go<|WC.drs (fun w=>At w b7 0 [.int .u64 tm.now] ∧ True) .body (⟨hb7.at rfl,trivial⟩) ?_
 obtain ⟨hac,hb,hb7,hst⟩:=Q4 (hac.n (TW.drew_step _)) (hb.n (TW.drew_step _)) (hb7.n (TW.drew_step _)) (hst.n (TW.drew_step _))
 have hf:=fun i hi=>(hf i hi).step (TW.drew_step _) id (fun _=>id) (fun _=>id) id
 refine DL.m 0 rfl rfl<|DL.fx 1 rfl (Fr.ncP rfl)<|DL.fx 2 rfl (Fr.fa rfl fa157_3)<|DL.fx 4 rfl (Fr.q 0 rfl fa42_0)<|DL.hx 5 rfl (fun w hw=>Rd.ld rfl sc22 (hw.1.one rfl)) ?_
 refine DL.e2 (i:=3) (j:=10) (by kernel_rfl) ?_ ?_
 focus
  obtain ⟨bq,cq,dq,eq_,hcq,hRq,hAq,hlbq,hgq⟩:=hst.at_ (hStr_get hs)
  obtain ⟨eqb,_,rfl⟩:=Value.slice.inj eq_
  obtain ⟨rfl,_⟩:=Addr.mk.inj (Option.some.inj eqb)
  obtain ⟨v1,v2,v3,v4,rfl,g1,g2,g3,g4⟩:=hRq
  rw [← Nat.zero_add (s * kStripe.k)] at hAq
  obtain ⟨A5,c5,rfl,_⟩:=g3.form
  obtain ⟨A6,c6,rfl,_⟩:=g4.form
  refine DOp.r rfl (Rd.la rfl ag155 (hAq.part (vs:=[.slice A5 (hStr h s).book.keys.length c5,.slice A6 (hStr h s).book.vals.length c6]) 5 rfl)) ?_
  refine DL.e2 (i:=6) (j:=10) (by kernel_rfl) ?_ ?_
  focus
   refine DOp.e rfl (Ef.call rfl en87 (book_Sweep _ _ (hStr h s).book tm.now _ g3 g4 hB) (fun _ h=>h.elim)) (fun _ _ ⟨s,_⟩=>⟨hb7.a s,trivial⟩) ?_
   rintro _ t3 ⟨s3,A8,c8,A9,c9,C,rfl,h8,h9,hC⟩
   obtain ⟨hac,hb,hb7,hst⟩:=Q4 (hac.n s3) (hb.n s3) (hb7.n s3) (hst.n s3)
   have hf:=fun i hi=>(hf i hi).step s3 id (fun _=>id) (fun _=>id) id
   refine DL.m 7 rfl rfl<|DL.fx 8 rfl (Fr.ext rfl rfl)<|DL.fx 9 rfl (Fr.ext rfl rfl)<|DL.ex 10 rfl (Ef.al (.loc 9) zr155) (fun _ _ ⟨_,_,s,_⟩=>⟨hb7.a s,trivial⟩) ?_
   rintro _ t4 ⟨b9,rfl,s4,hb9,nb9,mb9⟩
   obtain ⟨hac,hb,hb7,hst⟩:=Q4 (hac.n s4) (hb.n s4) (hb7.n s4) (hst.n s4)
   have hf:=fun i hi=>(hf i hi).step s4 id (fun _=>id) (fun _=>id) id
   obtain ⟨h8,h9,hC⟩:=Q3 (h8.n s4) (h9.n s4) (hC.n s4)
   refine DL.e0x 11 rfl (Ef.T [.slice A8 (bSweep (hStr h s).book tm.now).1.keys.length c8,.slice A9 (bSweep (hStr h s).book tm.now).1.vals.length c9] rfl rfl hb9 sz155 (.inl nb9)) (fun _ _ ⟨_,s,_⟩=>⟨hb7.a s,trivial⟩) ?_
   rintro _ t5 ⟨u5,s5,hb9'⟩
  rotate_left
  focus
   refine DOp.e rfl (Ef.al (.loc 9) zr155) (fun _ _ ⟨_,_,s,_⟩=>⟨hb7.a s,trivial⟩) ?_
   rintro _ t8 ⟨b9,rfl,s8,hb9,nb9,mb9⟩
   obtain ⟨hac,hb,hb7,hst⟩:=Q4 (hac.n s8) (hb.n s8) (hb7.n s8) (hst.n s8)
   have hf:=fun i hi=>(hf i hi).step s8 id (fun _=>id) (fun _=>id) id
   obtain ⟨g3,g4⟩:=Q2 (g3.n s8) (g4.n s8)
   refine DL.ex 6 rfl (Ef.call rfl en87 (book_Sweep _ _ (hStr h s).book tm.now _ g3 g4 hB) (fun _ h=>h.elim)) (fun _ _ ⟨s,_⟩=>⟨hb7.a s,trivial⟩) ?_
   rintro _ t9 ⟨s9,A8,c8,A9,c9,C,rfl,h8,h9,hC⟩
   obtain ⟨hac,hb,hb7,hst⟩:=Q4 (hac.n s9) (hb.n s9) (hb7.n s9) (hst.n s9)
   have hf:=fun i hi=>(hf i hi).step s9 id (fun _=>id) (fun _=>id) id
   have hb9:=hb9.n s9
   refine DL.m 7 rfl rfl<|DL.fx 8 rfl (Fr.ext rfl rfl)<|DL.fx 9 rfl (Fr.ext rfl rfl)<|DL.e0x 11 rfl (Ef.T [.slice A8 (bSweep (hStr h s).book tm.now).1.keys.length c8,.slice A9 (bSweep (hStr h s).book tm.now).1.vals.length c9] rfl rfl hb9 sz155 (.inl nb9)) (fun _ _ ⟨_,s,_⟩=>⟨hb7.a s,trivial⟩) ?_
   rintro _ t5 ⟨u10,s5,hb9'⟩
 rotate_left 2
 focus
  refine DOp.e rfl (Ef.al (.loc 9) zr155) (fun _ _ ⟨_,_,s,_⟩=>⟨hb7.a s,trivial⟩) ?_
  rintro _ t13 ⟨b9,rfl,s13,hb9,nb9,mb9⟩
  obtain ⟨hac,hb,hb7,hst⟩:=Q4 (hac.n s13) (hb.n s13) (hb7.n s13) (hst.n s13)
  have hf:=fun i hi=>(hf i hi).step s13 id (fun _=>id) (fun _=>id) id
  obtain ⟨bq,cq,dq,eq_,hcq,hRq,hAq,hlbq,hgq⟩:=hst.at_ (hStr_get hs)
  obtain ⟨eqb,_,rfl⟩:=Value.slice.inj eq_
  obtain ⟨rfl,_⟩:=Addr.mk.inj (Option.some.inj eqb)
  obtain ⟨v1,v2,v3,v4,rfl,g1,g2,g3,g4⟩:=hRq
  rw [← Nat.zero_add (s * kStripe.k)] at hAq
  obtain ⟨A5,c5,rfl,_⟩:=g3.form
  obtain ⟨A6,c6,rfl,_⟩:=g4.form
  refine DL.rx 3 rfl (Rd.la rfl ag155 (hAq.part (vs:=[.slice A5 (hStr h s).book.keys.length c5,.slice A6 (hStr h s).book.vals.length c6]) 5 rfl))<|DL.ex 6 rfl (Ef.call rfl en87 (book_Sweep _ _ (hStr h s).book tm.now _ g3 g4 hB) (fun _ h=>h.elim)) (fun _ _ ⟨s,_⟩=>⟨hb7.a s,trivial⟩) ?_
  rintro _ t14 ⟨s14,A8,c8,A9,c9,C,rfl,h8,h9,hC⟩
  obtain ⟨hac,hb,hb7,hst⟩:=Q4 (hac.n s14) (hb.n s14) (hb7.n s14) (hst.n s14)
  have hf:=fun i hi=>(hf i hi).step s14 id (fun _=>id) (fun _=>id) id
  have hb9:=hb9.n s14
  refine DL.m 7 rfl rfl<|DL.fx 8 rfl (Fr.ext rfl rfl)<|DL.fx 9 rfl (Fr.ext rfl rfl)<|DL.e0x 11 rfl (Ef.T [.slice A8 (bSweep (hStr h s).book tm.now).1.keys.length c8,.slice A9 (bSweep (hStr h s).book tm.now).1.vals.length c9] rfl rfl hb9 sz155 (.inl nb9)) (fun _ _ ⟨_,s,_⟩=>⟨hb7.a s,trivial⟩) ?_
  rintro _ t5 ⟨u15,s5,hb9'⟩
 all_goals
  have hb9:Bk t5 b9 [.slice A8 (bSweep (hStr h s).book tm.now).1.keys.length c8,.slice A9 (bSweep (hStr h s).book tm.now).1.vals.length c9] _ _:=hb9'
  clear hb9'
  obtain ⟨hac,hb,hb7,hst⟩:=Q4 (hac.n s5) (hb.n s5) (hb7.n s5) (hst.n s5)
  have hf:=fun i hi=>(hf i hi).step s5 nofun (fun _=>nofun) (fun _=>nofun) nofun
  obtain ⟨h8,h9,hC⟩:=Q3 (h8.n s5) (h9.n s5) (hC.n s5)
  refine DL.fx 12 rfl (Fr.as rfl)<|DL.D<|WQ.n<|WC.rs<|WL.m rfl<|WL.r (Rd.la rfl ag155 (hb9.at (vs:=[.slice A8 (bSweep (hStr h s).book tm.now).1.keys.length c8,.slice A9 (bSweep (hStr h s).book tm.now).1.vals.length c9]) rfl))<|WL.f (Fr.ncP rfl)<|WL.f (Fr.fa rfl fa157_3)<|WL.e0 (Ef.stG (i:=s) (j:=5) (x0:=hStr h s) (z:={ hStr h s with book:=(bSweep (hStr h s).book tm.now).1 }) (vs:=[.slice A8 ((bSweep (hStr h s).book tm.now).1).keys.length c8,.slice A9 ((bSweep (hStr h s).book tm.now).1).vals.length c9]) rfl rfl hst (by simp [kStripe]) (by simp [kStripe]) (hStr_get hs) rfl (by simp [Value.oneCell']) (fun t' c st ⟨w1,w2,w3,w4,e,k1,k2,k3,k4⟩=>⟨w1,w2,_,_,by rw [e]; rfl,k1,k2,h8.step st nofun,h9.step st nofun⟩) sz155 rfl nofun (.inr (.inr (.inr (.inl rfl))))) ?_
  rintro _ t6 ⟨s6,hst2⟩
  obtain ⟨hac,hb,hb7⟩:=Q3 (hac.n s6) (hb.n s6) (hb7.n s6)
  have hf:=fun i hi=>(hf i hi).step s6 nofun (fun _=>nofun) (fun _=>nofun) nofun
  have hC:=hC.n s6
  refine WL.go<|WC.dr (fun w=>At w b7 1 [.int .u64 tm.seq] ∧ True) .body (⟨hb7.at rfl,trivial⟩) ?_
  obtain ⟨hac,hb,hb7⟩:=Q3 (hac.n (TW.drew_step _)) (hb.n (TW.drew_step _)) (hb7.n (TW.drew_step _))
  have hf:=fun i hi=>(hf i hi).step (TW.drew_step _) id (fun _=>id) (fun _=>id) id
  obtain ⟨hC,hst2⟩:=Q2 (hC.n (TW.drew_step _)) (hst2.n (TW.drew_step _))
  refine DL.m 0 rfl rfl<|DL.fx 1 rfl (Fr.ncP rfl)<|DL.fx 2 rfl (Fr.fa rfl fa157_4)<|DL.m 4 rfl rfl<|DL.fx 5 rfl (Fr.q 1 rfl fa42_1)<|DL.hx 6 rfl (fun w hw=>Rd.ld rfl sc22 (hw.1.one rfl)) ?_
  obtain ⟨bq2,cq2,dq2,eq2,hcq2,hRq2,hAq2,_,_⟩:=hst2.at_ (show (h.strs.set s { hStr h s with book:=(bSweep (hStr h s).book tm.now).1 })[s]? = some { hStr h s with book:=(bSweep (hStr h s).book tm.now).1 } by rw [List.getElem?_set_self hs])
  obtain ⟨eqb2,_,rfl⟩:=Value.slice.inj eq2
  obtain ⟨rfl,_⟩:=Addr.mk.inj (Option.some.inj eqb2)
  obtain ⟨w1,w2,w3,w4,rfl,_⟩:=hRq2
  rw [← Nat.zero_add (s * kStripe.k)] at hAq2
  refine DL.rx 3 rfl (Rd.ld rfl sc149 ((hAq2.part (vs:=[.pointer (some ⟨(hStr h s).fp,0,none⟩)]) 7 rfl).one rfl)) ?_
  have hfo:=hf
  clear hf
  refine DL.ex 7 rfl (Ef.call rfl en88 (feed_Tell _ ((bSweep (hStr h s).book tm.now).2) tm.seq _ (hfo s hs) hC hcl hks hok) (fun _ h=>.inr (.inr (.inr h)))) (fun _ _ ⟨s,_⟩=>⟨(hb7.step s (by rintro ⟨_,h | h⟩ <;> cases h)).at rfl,trivial⟩) ?_
  rintro _ t7 ⟨s7,hfn⟩
  have hb:=hb.step s7 (by rintro ⟨_,h | h⟩ <;> cases h)
  have hac:=hac.step s7 (by rintro ⟨_,h | h⟩ <;> cases h) (by rintro ⟨_,h | h⟩ <;> cases h)
  have hst2:=hst2.step s7 (by rintro ⟨_,h | h⟩ <;> cases h) (by rintro ⟨_,h | h⟩ <;> cases h)
  have hf:=feeds_set hfo hfn s7 (fun _ _=>by rintro ⟨_,h | h⟩ <;> cases h) (fun i k e=>by rintro ⟨_,h | h⟩; exact e (Tag.ring.inj h).1; cases h) (fun i k e=>by rintro ⟨_,h | h⟩; cases h; exact e (Tag.rrow.inj h).1) (by rintro ⟨_,h | h⟩ <;> cases h)
  exact DL.D<|WQ.end_ rfl .nil (IsHall.mk_set (h:={ hWr h who s with feed:=setF h.feed s (fTell (h.feed s) (bSweep (hStr h s).book tm.now).2 tm.seq) }) hb hst2 hac hf hs rfl)
abbrev inC (f:Nat → Bool):List Value:=(List.range 8).map fun i=>Value.bool (f i)
theorem inC_put (f:Nat → Bool):∀ s,s < 8 → put (inC f) s [.bool true] = inC (fun i=>if i = s then true else f i)
 | 0,_=>rfl | 1,_=>rfl | 2,_=>rfl | 3,_=>rfl | 4,_=>rfl | 5,_=>rfl | 6,_=>rfl | 7,_=>rfl
 | k + 8,h=>absurd h (by omega)
theorem inC_eq {f g:Nat → Bool} (h:∀ i,i < 8 → f i = g i):inC f = inC g:=List.map_congr_left fun i hi=>by rw [h i (List.mem_range.1 hi)]
theorem inC_get (f:Nat → Bool) {k:Nat} (h:k < 8):(inC f).toArray[k]? = some (.bool (f k)):=by simp [h]
theorem hash_Stripes {uv:Value} {users:List ByteArray} {n:Int} (t:TW) (hu:Sl t kStr uv users) (hl:users.length ≤ 1000000) (hs:∀ u ∈ users,u.size ≤ 1000000) (hn:n ≤ 1000000):Cal 93 [uv,.int .i64 n] t No (fun r t' => Sl t' (kInt .i64) r (stripesIn users n)):=by
 obtain ⟨Au,cu,rfl,_⟩:=hu.form
 have hz:t.w.heap.size ≤ t.w.heap.size:=Nat.le_refl _
 refine Cal.en Tryz.func93 rfl Tryz.ntmps93<|WC.rs<|WL.a rfl<|WL.go<|WC.rs<|WL.e (Ef.al (.loc 5) zr50) ?_
 rintro _ t1 ⟨b5,rfl,s1,hb5,nb5,mb5⟩
 obtain ⟨hu,hz⟩:=Q2 (hu.n s1) (Nat.le_trans hz s1.size)
 refine WL.go<|WC.seq<|WC.rs<|WL.m rfl<|WL.f (Fr.ln rfl Tryz.underlying54)<|WL.m rfl<|WL.go<|WC.block<|WC.loop (σ:=Nat) (fun k t' => Sl t' kStr (.slice Au users.length cu) users ∧ t.w.heap.size ≤ t'.w.heap.size ∧ k ≤ users.length ∧ Bk t' b5 (inC (inU users n k)) 50 (.loc 5) ∧ True) (fun k=>[(1,.int .i64 n),(4,.slice none 0 0),(5,.pointer (some ⟨b5,0,none⟩)),(12,.slice Au users.length cu),(13,.int .i64 (users.length:Int)),(14,.int .i64 (k:Int))]) (fun k=>users.length - k) 0 ⟨rfl,rfl,rfl,rfl,rfl,rfl,trivial⟩ ⟨hu,hz,Nat.zero_le _,hb5,trivial⟩ ?_
 rintro k t2 ⟨hu,hz,hk,hb,_⟩
 refine WC.rs<|WL.f (Fr.bo rfl rfl BO.lt)<|WL.go<|WC.seq ?_
 refine WC.condS rfl (fun hcond15=>?_) (fun hcond15=>?_)
 ·have hlt:k < users.length:=by have:=dcT hcond15; omega
  refine WC.skip<|WQ.n<|WC.seq<|WC.block<|WC.rs ?_
  obtain ⟨b,o,cap,c,e1,hcp,hR,hA,hlb,hfz⟩:=hu.at_ (List.getElem?_eq_getElem hlt)
  obtain ⟨rfl,_,rfl⟩:=Value.slice.inj e1
  obtain rfl:c = [.string users[k]]:=hR
  refine WL.f (Fr.ix rfl rfl sl54 (by omega) (by omega))<|WL.r (Rd.ld rfl sc9 (hA.one rfl))<|WL.a rfl<|WL.go<|WC.rs<|WL.m rfl<|WL.m rfl<|WL.e (Ef.call rfl en111 (hash_Stripe _ _ _ (hs _ (List.getElem_mem hlt)) hn) (fun _ h=>h.elim)) ?_
  rintro _ t3 ⟨s3,rfl⟩
  obtain ⟨hb,hu,hz⟩:=Q3 (hb.n s3) (hu.n s3) (Nat.le_trans hz s3.size)
  have hnn:=stripeOf_nn users[k] n
  obtain ⟨q,hq⟩:=Int.eq_ofNat_of_zero_le hnn
  refine WL.a rfl<|WL.go<|WC.rs<|WL.m rfl<|WL.f (Fr.bo rfl rfl BO.lt)<|WL.go ?_
  refine WC.condS rfl (fun hcond22=>?_) (fun hcond22=>?_)
  focus
   have hq8:q < 8:=by have:=dcT hcond22; omega
   refine WC.rg<|WL.m rfl<|WL.f (Fr.ixa rfl rfl ar50 (by omega) (by omega) (o' := q) (by rw [hq]; simp))<|WL.e0 (Ef.st (vs:=[.bool true]) rfl rfl hb rfl (by simp [Value.oneCell']) sz4 rfl (by simp; omega) (.inl nb5)) ?_
   rintro _ t4 ⟨u4,s4,hb1⟩
   obtain ⟨hu,hz⟩:=Q2 (hu.n s4) (Nat.le_trans hz s4.size)
   rw [inC_put _ q hq8,inC_eq (g:=inU users n (k + 1)) (fun i _=>by rw [inU_succ hlt,hq]; by_cases e:i = q; { subst e; simp }; { rw [if_neg e,decide_eq_false (by omega)]; simp })] at hb1
   have hb2:=hb1
   refine WL.nil ?_
  rotate_left
  focus
   have hq8:¬ q < 8:=by have:=dcF hcond22; omega
   have hb2:=hb
   rw [inC_eq (g:=inU users n (k + 1)) (fun i hi=>by rw [inU_succ hlt,hq,decide_eq_false (by omega)]; simp)] at hb2
   refine WC.skip ?_
  all_goals
   exact WQ.bn<|WQ.n<|WC.rg<|WL.f (Fr.bo rfl rfl (BO.add (by omega) (by omega)))<|WL.m rfl<|WL.nil<|WQ.again (k + 1) ⟨rfl,rfl,rfl,rfl,rfl,rfl,trivial⟩ ⟨hu,hz,hlt,hb2,trivial⟩ (by omega)
 have hge:k = users.length:=by have:=dcF hcond15; omega
 subst hge
 refine WC.exit<|WQ.tx<|WQ.tx<|WQ.bx<|WQ.n<|WC.rs<|WL.a rfl<|WL.go<|WC.seq<|WC.rs ?_
 refine WL.r (Rd.la rfl ag50 (hb.at (vs:=inC (inU users n users.length)) rfl))<|WL.m rfl<|WL.go<|WC.block<|WC.loop (σ:=Nat × Value) (fun p t' => Sl t' kStr (.slice Au users.length cu) users ∧ t.w.heap.size ≤ t'.w.heap.size ∧ p.1 ≤ 8 ∧ Row t' (.loc 35) t.w.heap.size 3 (kInt .i64) p.2 (sIn (inU users n users.length) p.1) ∧ True) (fun p=>[(4,.slice none 0 0),(9,p.2),(26,.agg (inC (inU users n users.length)).toArray),(27,.int .i64 (p.1:Int))]) (fun p=>8 - p.1) (0,.slice none 0 0) ⟨rfl,rfl,rfl,rfl,trivial⟩ ⟨hu,hz,Nat.zero_le _,Row.nil _ _ _ _ _,trivial⟩ ?_
 rintro ⟨m,ov⟩ t5 ⟨hu,hz,hm,ho,_⟩
 simp only at hm ho
 refine WC.rs<|WL.f (Fr.bo rfl rfl BO.lt)<|WL.go<|WC.seq ?_
 refine WC.condS rfl (fun hcond28=>?_) (fun hcond28=>?_)
 ·have hlt:m < 8:=by have:=dcT hcond28; omega
  refine WC.skip<|WQ.n<|WC.seq<|WC.block<|WC.rs<|WL.m rfl<|WL.f (Fr.ixA rfl rfl ar50 sc4 (by omega) (by omega) (inC_get _ hlt))<|WL.a rfl<|WL.a rfl<|WL.go ?_
  refine WC.rs<|WL.m rfl<|WL.go ?_
  refine WC.condS rfl (fun hcond31=>?_) (fun hcond31=>?_)
  ·have hc31:inU users n users.length m = true:=by simpa using hcond31
   have hns:sIn (inU users n users.length) (m + 1) = sIn (inU users n users.length) m ++ [(m:Int)]:=by rw [sIn_succ,if_pos hc31]
   refine WC.rg<|WL.m rfl<|WL.m rfl<|WL.e (Ef.bs (.loc 34) (vs:=[(0,.int .i64 (m:Int))]) (cs:=[.int .i64 (m:Int)]) (e:=3) rfl (fun w=>by kernel_rfl)) ?_
   rintro _ t6 ⟨b34,rfl,s6,hb34,nb34,_⟩
   obtain ⟨ho,hu,hz⟩:=Q3 (ho.n s6) (hu.n s6) (Nat.le_trans hz s6.size)
   refine WL.e (Ef.ap1 (y1:=(m:Int)) rfl rfl hb34 rfl sl37 el3 (by decide) ho hz (by have:=sIn_len (inU users n users.length) m; omega) (by decide) nofun (.inl (Nat.le_refl _))) ?_
   rintro v35 t7 ⟨s7,ho2⟩
   obtain ⟨hu,hz⟩:=Q2 (hu.n s7) (Nat.le_trans hz s7.size)
   exact WL.a rfl<|WL.nil<|WQ.bn<|WQ.n<|WC.rg<|WL.f (Fr.bo rfl rfl (BO.add (by omega) (by omega)))<|WL.m rfl<|WL.nil<|WQ.again (m + 1,v35) ⟨rfl,rfl,rfl,rfl,trivial⟩ ⟨hu,hz,hlt,by rw [← hns] at ho2; exact ho2,trivial⟩ (by simp only; omega)
  have hc31:¬ inU users n users.length m = true:=by simpa using hcond31
  have hns:sIn (inU users n users.length) (m + 1) = sIn (inU users n users.length) m:=by rw [sIn_succ,if_neg hc31]
  exact WC.skip<|WQ.bn<|WQ.n<|WC.rg<|WL.f (Fr.bo rfl rfl (BO.add (by omega) (by omega)))<|WL.m rfl<|WL.nil<|WQ.again (m + 1,ov) ⟨rfl,rfl,rfl,rfl,trivial⟩ ⟨hu,hz,hlt,by rw [← hns] at ho; exact ho,trivial⟩ (by simp only; omega)
 have hge:m = 8:=by have:=dcF hcond28; omega
 subst hge
 refine WC.exit<|WQ.tx<|WQ.tx<|WQ.bx<|WQ.n<|WC.rs<|WL.m rfl<|WL.a rfl<|WL.go<|WC.ret ?_
 exact WQ.tag _ .fz (.inl ho.base)<|WQ.ret rfl (.tmp rfl .nil) (by have e:sIn (inU users n users.length) 8 = stripesIn users n:=by { unfold sIn stripesIn inU; rw [List.take_length] }; rw [← e]; exact ho.freeze nofun)
theorem hall_New (c:Cfg) (t:TW) (he0:0 ≤ c.epochs) (he1:c.epochs ≤ 18446744073709551615):Cal 41 [.agg (cfgC c).toArray] t No (fun r t' => if cfgRight c = false then r = .tuple #[.pointer none,.int .i64 1] else ∃ b fp,r = .tuple #[.pointer (some ⟨b,0,none⟩),.int .i64 0] ∧ t.w.heap.size ≤ b ∧ IsHall t' b (hNew c fp)):=by
 have hz:t.w.heap.size ≤ t.w.heap.size:=Nat.le_refl _
 refine Cal.en Tryz.func41 rfl Tryz.ntmps41<|WC.rs<|WL.e (Ef.bx (.loc 1) (cs:=[.int .i64 c.stripes,.int .i64 c.sessions,.int .i64 c.queue,.int .i64 c.watches,.int .i64 c.retries,.int .u64 c.epochs,.int .u64 c.start]) rfl) ?_
 rintro _ t1 ⟨b1,rfl,s1,hb1,nb1,mb1⟩
 have hz:=Nat.le_trans hz s1.size
 refine WL.a rfl<|WL.a rfl<|WL.go<|WC.seq<|WC.rs<|WL.r (Rd.la rfl ag24 (hb1.at (vs:=[.int .i64 c.stripes,.int .i64 c.sessions,.int .i64 c.queue,.int .i64 c.watches,.int .i64 c.retries,.int .u64 c.epochs,.int .u64 c.start]) rfl))<|WL.e (Ef.call rfl en58 (model_Right _ _) (fun _ h=>h.elim)) ?_
 rintro _ t2 ⟨s2,rfl⟩
 obtain ⟨hb1,hz⟩:=Q2 (hb1.n s2) (Nat.le_trans hz s2.size)
 refine WL.f (Fr.un_not rfl)<|WL.go ?_
 refine WC.condS rfl (fun hcond7=>?_) (fun hcond7=>?_)
 ·exact WC.rs<|WL.a rfl<|WL.a rfl<|WL.go<|WC.ret<|WQ.tr<|WQ.ret rfl (.tmp rfl (.tmp rfl .nil)) (by rw [if_pos (by simpa using hcond7)]; rfl)
 have hcr:cfgRight c = true:=by simpa using hcond7
 have hst1:1 ≤ c.stripes ∧ c.stripes ≤ 8 ∧ 1 ≤ c.queue:=by simp [cfgRight] at hcr; omega
 refine WC.skip<|WQ.n<|WC.rs<|WL.r (Rd.la rfl ag24 (hb1.at (vs:=[.int .i64 c.stripes,.int .i64 c.sessions,.int .i64 c.queue,.int .i64 c.watches,.int .i64 c.retries,.int .u64 c.epochs,.int .u64 c.start]) rfl))<|WL.q 6 rfl fa24_6<|WL.r (Rd.ld rfl sc22 (hb1.cell rfl))<|WL.f (Fr.bd (vs:=[(0,.int .u64 c.start)]) (cs:=#[.int .u64 c.start,.int .u64 0,.bool false]) rfl (fun w=>by kernel_rfl))<|WL.f (Fr.bd (vs:=[(0,.agg #[.int .i64 c.stripes,.int .i64 c.sessions,.int .i64 c.queue,.int .i64 c.watches,.int .i64 c.retries,.int .u64 c.epochs,.int .u64 c.start]),(1,.agg #[.int .u64 c.start,.int .u64 0,.bool false])]) (cs:=#[.int .i64 c.stripes,.int .i64 c.sessions,.int .i64 c.queue,.int .i64 c.watches,.int .i64 c.retries,.int .u64 c.epochs,.int .u64 c.start,.int .u64 c.start,.int .u64 0,.bool false,.slice none 0 0,.slice none 0 0]) rfl (fun w=>by kernel_rfl))<|WL.e (Ef.bx (.hall) (cs:=[.int .i64 c.stripes,.int .i64 c.sessions,.int .i64 c.queue,.int .i64 c.watches,.int .i64 c.retries,.int .u64 c.epochs,.int .u64 c.start,.int .u64 c.start,.int .u64 0,.bool false,.slice none 0 0,.slice none 0 0]) rfl) ?_
 rintro _ t3 ⟨b13,rfl,s3,hb13,nb13,mb13⟩
 obtain ⟨hb1,hz⟩:=Q2 (hb1.n s3) (Nat.le_trans hz s3.size)
 refine WL.a rfl<|WL.go<|WC.seq<|WC.rs<|WL.q 0 rfl fa24_0<|WL.r (Rd.ld rfl sc3 (hb1.cell rfl))<|WL.m rfl<|WL.go<|WC.block<|WC.loop (σ:=Nat) (fun k t' => t.w.heap.size ≤ t'.w.heap.size ∧ Bk t' b1 [.int .i64 c.stripes,.int .i64 c.sessions,.int .i64 c.queue,.int .i64 c.watches,.int .i64 c.retries,.int .u64 c.epochs,.int .u64 c.start] 24 (.loc 1) ∧ k ≤ c.stripes.toNat ∧ (∃ fp sv,Bk t' b13 (cfgC c ++ [.int .u64 c.start,.int .u64 0,.bool false,sv,.slice none 0 0]) 144 .hall ∧ Row t' .strs t.w.heap.size 157 kStripe sv (strsN c fp k) ∧ ∀ i,i < k → IsFeed t' i (fp i) (feed0 c)) ∧ True) (fun k=>[(1,.pointer (some ⟨b1,0,none⟩)),(2,.pointer none),(3,.int .i64 0),(4,.pointer (some ⟨b13,0,none⟩)),(15,.int .i64 c.stripes),(16,.int .i64 (k:Int))]) (fun k=>c.stripes.toNat - k) 0 ⟨rfl,rfl,rfl,rfl,rfl,rfl,trivial⟩ ⟨hz,hb1,Nat.zero_le _,⟨fun _=>0,_,hb13,Row.nil _ _ _ _ _,fun i hi=>absurd hi (Nat.not_lt_zero _)⟩,trivial⟩ ?_
 rintro k t4 ⟨hz,hb1,hk,hI,_⟩
 obtain ⟨fp,sv,hb13,hst,hfs⟩:=hI
 refine WC.rs<|WL.f (Fr.bo rfl rfl BO.lt)<|WL.go<|WC.seq ?_
 refine WC.condS rfl (fun hcond17=>?_) (fun hcond17=>?_)
 ·have hlt:k < c.stripes.toNat:=by have:=dcT hcond17; omega
  refine WC.skip<|WQ.n<|WC.seq<|WC.block<|WC.dr (fun w=>At w b1 5 [.int .u64 c.epochs] ∧ At w b1 2 [.int .i64 c.queue] ∧ True) (.blk (.then_ (.then_ (.blk (.then_ .body))))) (⟨hb1.at rfl,hb1.at rfl,trivial⟩) ?_
  obtain ⟨hb1,hb13,hst,hz⟩:=Q4 (hb1.n (TW.drew_step _)) (hb13.n (TW.drew_step _)) (hst.n (TW.drew_step _)) (Nat.le_trans hz (TW.drew_step _).size)
  have hfs:=fun (i:Nat) (hi:i < k)=>(hfs i hi).step (TW.drew_step _) id (fun _=>id) (fun _=>id) id
  refine DL.m 0 rfl rfl<|DL.m 1 rfl rfl<|DL.fx 2 rfl (Fr.ncP rfl)<|DL.fx 3 rfl (Fr.q 10 rfl fa144_2)<|DL.fx 5 rfl (Fr.q 5 rfl fa24_5)<|DL.fx 8 rfl (Fr.q 2 rfl fa24_2)<|DL.hx 6 rfl (fun w hw=>Rd.ld rfl sc22 (hw.1.one rfl))<|DL.hx 9 rfl (fun w hw=>Rd.ld rfl sc3 (hw.2.1.one rfl)) ?_
  refine DL.e2 (i:=4) (j:=7) (by kernel_rfl) ?_ ?_
  focus
   refine DOp.r rfl (Rd.ld rfl sc141 (hb13.cell rfl))<|DL.ex 7 rfl (Ef.call rfl en59 (cell_New _ _ he0 he1) (fun _ h=>h.elim)) (fun _ _ ⟨s,_⟩=>⟨hb1.a s,hb1.a s,trivial⟩) ?_
   rintro _ t5 ⟨s5,rfl⟩
   obtain ⟨hb1,hb13,hst,hz⟩:=Q4 (hb1.n s5) (hb13.n s5) (hst.n s5) (Nat.le_trans hz s5.size)
   have hfs:=fun (i:Nat) (hi:i < k)=>(hfs i hi).step s5 id (fun _=>id) (fun _=>id) id
   refine DL.ex 10 rfl (Ef.call rfl en60 (feed_New k c.queue _ (by omega)) (fun _ h=>h.elim)) (fun _ _ ⟨s,_⟩=>⟨hb1.a s,hb1.a s,trivial⟩) ?_
   rintro _ t6 ⟨s6,b28,rfl,n28,h28⟩
   obtain ⟨hb1,hb13,hst,hz⟩:=Q4 (hb1.n s6) (hb13.n s6) (hst.n s6) (Nat.le_trans hz s6.size)
   have hfs:=fun (i:Nat) (hi:i < k)=>(hfs i hi).step s6 id (fun _=>id) (fun _=>id) id
   refine DL.fx 11 rfl (Fr.bd (vs:=[(1,.agg #[.int .u64 0,.int .u64 (evenB c.epochs)]),(4,.pointer (some ⟨b28,0,none⟩))]) (cs:=#[.int .i64 0,.int .u64 0,.int .u64 (evenB c.epochs),.slice none 0 0,.slice none 0 0,.slice none 0 0,.slice none 0 0,.pointer (some ⟨b28,0,none⟩)]) rfl (fun w=>by kernel_rfl))<|DL.ex 12 rfl (Ef.bs (.loc 30) (vs:=[(0,.agg #[.int .i64 0,.int .u64 0,.int .u64 (evenB c.epochs),.slice none 0 0,.slice none 0 0,.slice none 0 0,.slice none 0 0,.pointer (some ⟨b28,0,none⟩)])]) (cs:=[.int .i64 0,.int .u64 0,.int .u64 (evenB c.epochs),.slice none 0 0,.slice none 0 0,.slice none 0 0,.slice none 0 0,.pointer (some ⟨b28,0,none⟩)]) (e:=157) rfl (fun w=>by kernel_rfl)) (fun _ _ ⟨_,_,s,_⟩=>⟨hb1.a s,hb1.a s,trivial⟩) ?_
   rintro _ t7 ⟨b30,rfl,s7,hb30,nb30,_⟩
   obtain ⟨hb1,hb13,hst,hz⟩:=Q4 (hb1.n s7) (hb13.n s7) (hst.n s7) (Nat.le_trans hz s7.size)
   have hfs:=fun (i:Nat) (hi:i < k)=>(hfs i hi).step s7 id (fun _=>id) (fun _=>id) id
   have h28:=h28.n s7
   refine DL.ex 13 rfl (Ef.ap1 (dk:=kStripe) (y1:=str0 c b28) rfl rfl hb30 ⟨_,_,_,_,rfl,Sl.nil _ _ _ _,Sl.nil _ _ _ _,Sl.nil _ _ _ _,Sl.nil _ _ _ _⟩ sl141 el157 (by decide) hst hz (by simp [strsN]; omega) (by decide) nofun (.inl (Nat.le_refl _))) (fun _ _ ⟨s,_⟩=>⟨hb1.a s,hb1.a s,trivial⟩) ?_
   rintro v31 t8 ⟨s8,hst2⟩
   obtain ⟨hb1,hb13,hz⟩:=Q3 (hb1.n s8) (hb13.n s8) (Nat.le_trans hz s8.size)
   have hfs:=fun (i:Nat) (hi:i < k)=>(hfs i hi).step s8 nofun (fun _=>nofun) (fun _=>nofun) nofun
   have h28:=h28.n s8
   obtain ⟨A31,c31,rfl,_⟩:=hst2.form
   refine DL.fx 14 rfl (Fr.ncP rfl)<|DL.fx 15 rfl (Fr.q 10 rfl fa144_2)<|DL.e0x 16 rfl (Ef.T [.slice A31 (strsN c fp k ++ [str0 c b28]).length c31] rfl rfl hb13 sz141 (.inl nb13)) (fun _ _ ⟨_,s,_⟩=>⟨hb1.a s,hb1.a s,trivial⟩) ?_
   rintro _ t9 ⟨u9,s9,hb13'⟩
  rotate_left
  focus
   refine DOp.e rfl (Ef.call rfl en59 (cell_New _ _ he0 he1) (fun _ h=>h.elim)) (fun _ _ ⟨s,_⟩=>⟨hb1.a s,hb1.a s,trivial⟩) ?_
   rintro _ t10 ⟨s10,rfl⟩
   obtain ⟨hb1,hb13,hst,hz⟩:=Q4 (hb1.n s10) (hb13.n s10) (hst.n s10) (Nat.le_trans hz s10.size)
   have hfs:=fun (i:Nat) (hi:i < k)=>(hfs i hi).step s10 id (fun _=>id) (fun _=>id) id
   refine DL.e2 (i:=4) (j:=10) (by kernel_rfl) ?_ ?_
   focus
    refine DOp.r rfl (Rd.ld rfl sc141 (hb13.cell rfl))<|DL.ex 10 rfl (Ef.call rfl en60 (feed_New k c.queue _ (by omega)) (fun _ h=>h.elim)) (fun _ _ ⟨s,_⟩=>⟨hb1.a s,hb1.a s,trivial⟩) ?_
    rintro _ t11 ⟨s11,b28,rfl,n28,h28⟩
    obtain ⟨hb1,hb13,hst,hz⟩:=Q4 (hb1.n s11) (hb13.n s11) (hst.n s11) (Nat.le_trans hz s11.size)
    have hfs:=fun (i:Nat) (hi:i < k)=>(hfs i hi).step s11 id (fun _=>id) (fun _=>id) id
    refine DL.fx 11 rfl (Fr.bd (vs:=[(1,.agg #[.int .u64 0,.int .u64 (evenB c.epochs)]),(4,.pointer (some ⟨b28,0,none⟩))]) (cs:=#[.int .i64 0,.int .u64 0,.int .u64 (evenB c.epochs),.slice none 0 0,.slice none 0 0,.slice none 0 0,.slice none 0 0,.pointer (some ⟨b28,0,none⟩)]) rfl (fun w=>by kernel_rfl))<|DL.ex 12 rfl (Ef.bs (.loc 30) (vs:=[(0,.agg #[.int .i64 0,.int .u64 0,.int .u64 (evenB c.epochs),.slice none 0 0,.slice none 0 0,.slice none 0 0,.slice none 0 0,.pointer (some ⟨b28,0,none⟩)])]) (cs:=[.int .i64 0,.int .u64 0,.int .u64 (evenB c.epochs),.slice none 0 0,.slice none 0 0,.slice none 0 0,.slice none 0 0,.pointer (some ⟨b28,0,none⟩)]) (e:=157) rfl (fun w=>by kernel_rfl)) (fun _ _ ⟨_,_,s,_⟩=>⟨hb1.a s,hb1.a s,trivial⟩) ?_
    rintro _ t12 ⟨b30,rfl,s12,hb30,nb30,_⟩
    obtain ⟨hb1,hb13,hst,hz⟩:=Q4 (hb1.n s12) (hb13.n s12) (hst.n s12) (Nat.le_trans hz s12.size)
    have hfs:=fun (i:Nat) (hi:i < k)=>(hfs i hi).step s12 id (fun _=>id) (fun _=>id) id
    have h28:=h28.n s12
    refine DL.ex 13 rfl (Ef.ap1 (dk:=kStripe) (y1:=str0 c b28) rfl rfl hb30 ⟨_,_,_,_,rfl,Sl.nil _ _ _ _,Sl.nil _ _ _ _,Sl.nil _ _ _ _,Sl.nil _ _ _ _⟩ sl141 el157 (by decide) hst hz (by simp [strsN]; omega) (by decide) nofun (.inl (Nat.le_refl _))) (fun _ _ ⟨s,_⟩=>⟨hb1.a s,hb1.a s,trivial⟩) ?_
    rintro v31 t13 ⟨s13,hst2⟩
    obtain ⟨hb1,hb13,hz⟩:=Q3 (hb1.n s13) (hb13.n s13) (Nat.le_trans hz s13.size)
    have hfs:=fun (i:Nat) (hi:i < k)=>(hfs i hi).step s13 nofun (fun _=>nofun) (fun _=>nofun) nofun
    have h28:=h28.n s13
    obtain ⟨A31,c31,rfl,_⟩:=hst2.form
    refine DL.fx 14 rfl (Fr.ncP rfl)<|DL.fx 15 rfl (Fr.q 10 rfl fa144_2)<|DL.e0x 16 rfl (Ef.T [.slice A31 (strsN c fp k ++ [str0 c b28]).length c31] rfl rfl hb13 sz141 (.inl nb13)) (fun _ _ ⟨_,s,_⟩=>⟨hb1.a s,hb1.a s,trivial⟩) ?_
    rintro _ t9 ⟨u14,s9,hb13'⟩
   rotate_left
   focus
    refine DOp.e rfl (Ef.call rfl en60 (feed_New k c.queue _ (by omega)) (fun _ h=>h.elim)) (fun _ _ ⟨s,_⟩=>⟨hb1.a s,hb1.a s,trivial⟩) ?_
    rintro _ t15 ⟨s15,b28,rfl,n28,h28⟩
    obtain ⟨hb1,hb13,hst,hz⟩:=Q4 (hb1.n s15) (hb13.n s15) (hst.n s15) (Nat.le_trans hz s15.size)
    have hfs:=fun (i:Nat) (hi:i < k)=>(hfs i hi).step s15 id (fun _=>id) (fun _=>id) id
    refine DL.fx 11 rfl (Fr.bd (vs:=[(1,.agg #[.int .u64 0,.int .u64 (evenB c.epochs)]),(4,.pointer (some ⟨b28,0,none⟩))]) (cs:=#[.int .i64 0,.int .u64 0,.int .u64 (evenB c.epochs),.slice none 0 0,.slice none 0 0,.slice none 0 0,.slice none 0 0,.pointer (some ⟨b28,0,none⟩)]) rfl (fun w=>by kernel_rfl)) ?_
    refine DL.e2 (i:=4) (j:=12) (by kernel_rfl) ?_ ?_
    focus
     refine DOp.r rfl (Rd.ld rfl sc141 (hb13.cell rfl))<|DL.ex 12 rfl (Ef.bs (.loc 30) (vs:=[(0,.agg #[.int .i64 0,.int .u64 0,.int .u64 (evenB c.epochs),.slice none 0 0,.slice none 0 0,.slice none 0 0,.slice none 0 0,.pointer (some ⟨b28,0,none⟩)])]) (cs:=[.int .i64 0,.int .u64 0,.int .u64 (evenB c.epochs),.slice none 0 0,.slice none 0 0,.slice none 0 0,.slice none 0 0,.pointer (some ⟨b28,0,none⟩)]) (e:=157) rfl (fun w=>by kernel_rfl)) (fun _ _ ⟨_,_,s,_⟩=>⟨hb1.a s,hb1.a s,trivial⟩) ?_
     rintro _ t16 ⟨b30,rfl,s16,hb30,nb30,_⟩
     obtain ⟨hb1,hb13,hst,hz⟩:=Q4 (hb1.n s16) (hb13.n s16) (hst.n s16) (Nat.le_trans hz s16.size)
     have hfs:=fun (i:Nat) (hi:i < k)=>(hfs i hi).step s16 id (fun _=>id) (fun _=>id) id
     have h28:=h28.n s16
     refine DL.ex 13 rfl (Ef.ap1 (dk:=kStripe) (y1:=str0 c b28) rfl rfl hb30 ⟨_,_,_,_,rfl,Sl.nil _ _ _ _,Sl.nil _ _ _ _,Sl.nil _ _ _ _,Sl.nil _ _ _ _⟩ sl141 el157 (by decide) hst hz (by simp [strsN]; omega) (by decide) nofun (.inl (Nat.le_refl _))) (fun _ _ ⟨s,_⟩=>⟨hb1.a s,hb1.a s,trivial⟩) ?_
     rintro v31 t17 ⟨s17,hst2⟩
     obtain ⟨hb1,hb13,hz⟩:=Q3 (hb1.n s17) (hb13.n s17) (Nat.le_trans hz s17.size)
     have hfs:=fun (i:Nat) (hi:i < k)=>(hfs i hi).step s17 nofun (fun _=>nofun) (fun _=>nofun) nofun
     have h28:=h28.n s17
     obtain ⟨A31,c31,rfl,_⟩:=hst2.form
     refine DL.fx 14 rfl (Fr.ncP rfl)<|DL.fx 15 rfl (Fr.q 10 rfl fa144_2)<|DL.e0x 16 rfl (Ef.T [.slice A31 (strsN c fp k ++ [str0 c b28]).length c31] rfl rfl hb13 sz141 (.inl nb13)) (fun _ _ ⟨_,s,_⟩=>⟨hb1.a s,hb1.a s,trivial⟩) ?_
     rintro _ t9 ⟨u18,s9,hb13'⟩
    rotate_left
    focus
     refine DOp.e rfl (Ef.bs (.loc 30) (vs:=[(0,.agg #[.int .i64 0,.int .u64 0,.int .u64 (evenB c.epochs),.slice none 0 0,.slice none 0 0,.slice none 0 0,.slice none 0 0,.pointer (some ⟨b28,0,none⟩)])]) (cs:=[.int .i64 0,.int .u64 0,.int .u64 (evenB c.epochs),.slice none 0 0,.slice none 0 0,.slice none 0 0,.slice none 0 0,.pointer (some ⟨b28,0,none⟩)]) (e:=157) rfl (fun w=>by kernel_rfl)) (fun _ _ ⟨_,_,s,_⟩=>⟨hb1.a s,hb1.a s,trivial⟩) ?_
     rintro _ t19 ⟨b30,rfl,s19,hb30,nb30,_⟩
     obtain ⟨hb1,hb13,hst,hz⟩:=Q4 (hb1.n s19) (hb13.n s19) (hst.n s19) (Nat.le_trans hz s19.size)
     have hfs:=fun (i:Nat) (hi:i < k)=>(hfs i hi).step s19 id (fun _=>id) (fun _=>id) id
     have h28:=h28.n s19
     refine DL.rx 4 rfl (Rd.ld rfl sc141 (hb13.cell rfl))<|DL.ex 13 rfl (Ef.ap1 (dk:=kStripe) (y1:=str0 c b28) rfl rfl hb30 ⟨_,_,_,_,rfl,Sl.nil _ _ _ _,Sl.nil _ _ _ _,Sl.nil _ _ _ _,Sl.nil _ _ _ _⟩ sl141 el157 (by decide) hst hz (by simp [strsN]; omega) (by decide) nofun (.inl (Nat.le_refl _))) (fun _ _ ⟨s,_⟩=>⟨hb1.a s,hb1.a s,trivial⟩) ?_
     rintro v31 t20 ⟨s20,hst2⟩
     obtain ⟨hb1,hb13,hz⟩:=Q3 (hb1.n s20) (hb13.n s20) (Nat.le_trans hz s20.size)
     have hfs:=fun (i:Nat) (hi:i < k)=>(hfs i hi).step s20 nofun (fun _=>nofun) (fun _=>nofun) nofun
     have h28:=h28.n s20
     obtain ⟨A31,c31,rfl,_⟩:=hst2.form
     refine DL.fx 14 rfl (Fr.ncP rfl)<|DL.fx 15 rfl (Fr.q 10 rfl fa144_2)<|DL.e0x 16 rfl (Ef.T [.slice A31 (strsN c fp k ++ [str0 c b28]).length c31] rfl rfl hb13 sz141 (.inl nb13)) (fun _ _ ⟨_,s,_⟩=>⟨hb1.a s,hb1.a s,trivial⟩) ?_
     rintro _ t9 ⟨u21,s9,hb13'⟩
  all_goals
   have hb13:Bk t9 b13 [.int .i64 c.stripes,.int .i64 c.sessions,.int .i64 c.queue,.int .i64 c.watches,.int .i64 c.retries,.int .u64 c.epochs,.int .u64 c.start,.int .u64 c.start,.int .u64 0,.bool false,.slice A31 (strsN c fp k ++ [str0 c b28]).length c31,.slice none 0 0] _ _:=hb13'
   clear hb13'
   obtain ⟨hb1,hz⟩:=Q2 (hb1.n s9) (Nat.le_trans hz s9.size)
   have hfs:=fun (i:Nat) (hi:i < k)=>(hfs i hi).step s9 nofun (fun _=>nofun) (fun _=>nofun) nofun
   obtain ⟨h28,hst2⟩:=Q2 (h28.n s9) (hst2.n s9)
   refine DL.D<|WQ.bn<|WQ.n<|WC.rg<|WL.f (Fr.bo rfl rfl (BO.add (by omega) (by omega)))<|WL.m rfl<|WL.nil ?_
   have hI2:(∃ fp sv,Bk t9 b13 (cfgC c ++ [.int .u64 c.start,.int .u64 0,.bool false,sv,.slice none 0 0]) 144 .hall ∧ Row t9 .strs t.w.heap.size 157 kStripe sv (strsN c fp (k + 1)) ∧ ∀ i,i < k + 1 → IsFeed t9 i (fp i) (feed0 c)):=⟨fun i=>if i = k then b28 else fp i,_,hb13,by rw [strsN_succ]; exact hst2,fun i hi=>by
    show IsFeed _ i (if i = k then b28 else fp i) _
    by_cases e:i = k
    ·rw [if_pos e,e]; exact h28
    ·rw [if_neg e]; exact hfs i (by omega)⟩
   exact WQ.again (k + 1) ⟨rfl,rfl,rfl,rfl,rfl,rfl,trivial⟩ ⟨hz,hb1,hlt,hI2,trivial⟩ (by omega)
 have hge:k = c.stripes.toNat:=by have:=dcF hcond17; omega
 refine WC.exit<|WQ.tx<|WQ.tx<|WQ.bx<|WQ.n<|WC.rs<|WL.m rfl<|WL.a rfl<|WL.a rfl<|WL.go ?_
 refine WC.ret ?_
 exact WQ.ret rfl (.tmp rfl (.tmp rfl .nil)) (by
   subst hge
   rw [if_neg (by simp [hcr])]
   have hst0:=hst.mono (Nat.zero_le _)
   obtain ⟨bs,ccs,cs,rfl,_⟩:=hst0.block (by unfold strsN; intro e; have:=congrArg List.length e; simp at this; omega)
   refine ⟨_,fp,rfl,nb13,⟨bs,ccs,none,0,hb13,hst0,Row.nil _ _ _ _ _⟩,fun i hi=>?_⟩
   have hi2:i < c.stripes.toNat:=by have e:(hNew c fp).strs.length = c.stripes.toNat:=by { simp [hNew,strsN] }; omega
   have e2:(hStr (hNew c fp) i).fp = fp i:=by simp [hStr,hNew,strsN,hi2,str0]
   rw [e2]
   exact hfs i hi2)
abbrev rep0 (err:Int):List Value:=[.int .i64 err,.slice none 0 0,.slice none 0 0,.bool false]
def ApR (t:TW) (av:Value) (who:Int) (s:Nat):WAct → Prop
 | .bad=>av = .nilFunc
 | .wr x=>∃ b1 b2 b3 uv,av = .func (.func 90) #[] #[.pointer (some ⟨b1,0,none⟩),.pointer (some ⟨b2,0,none⟩),.pointer (some ⟨b3,0,none⟩)] ∧ Bk t b1 [.int .i64 who] 3 .fz ∧ Bk t b2 [.int .i64 (s:Int)] 3 .fz ∧ Bk t b3 (opC x uv) 56 .fz
 | .sw=>who = 8 ∧ ∃ b1,av = .func (.func 74) #[] #[.pointer (some ⟨b1,0,none⟩)] ∧ Bk t b1 [.int .i64 (s:Int)] 3 .fz
theorem ApR.step {t t' : TW} {av:Value} {who:Int} {s:Nat} {a:WAct} {T:Tag → Prop} (h:ApR t av who s a) (st:Step T t t') (hT:¬ T .fz):ApR t' av who s a:=by
 cases a with
 | bad=>exact h
 | wr x=>
  obtain ⟨b1,b2,b3,uv,e,g1,g2,g3⟩:=h
  exact ⟨b1,b2,b3,uv,e,g1.step st hT,g2.step st hT,g3.step st hT⟩
 | sw=>
  obtain ⟨e,b1,e1,g1⟩:=h
  exact ⟨e,b1,e1,g1.step st hT⟩
theorem ApR.n {t t' : TW} {av:Value} {who:Int} {s:Nat} {a:WAct} {T:Tag → Prop} (h:ApR t av who s a) (st:Step T t t') (hT:¬ T .fz:=by first | exact id | nofun | (rintro (h | h) <;> cases h) | (rintro (h | h | h) <;> cases h)):ApR t' av who s a:=h.step st hT
abbrev wpC (p:WProc) (av:Value):List Value:=[.int .i64 p.who,.int .i64 (p.s:Int),av,.int .i64 (p.at_:Int)] ++ timeC p.time ++ [.int .i64 p.placed] ++ rep0 p.err
def IsW (t:TW) (g:Tag) (b:Nat) (p:WProc):Prop:=∃ av,Bk t b (wpC p av) 198 g ∧ ApR t av p.who p.s p.act
theorem Bk.frz {t:TW} {b:Nat} {cs:List Value} {ty:TypeId} {g:Tag} (h:Bk t b cs ty g):Bk (t.tagv (.slice (some ⟨b,0,none⟩) 0 0) .fz) b cs ty .fz:=⟨h.1,by simp [TW.tagv,Value.ownBlock]⟩
theorem write_Section (g:Tag) (who:Int) (s:Nat) (fn:Fn) (fb fc:Array Value) (t:TW):Cal 73 [.int .i64 who,.int .i64 (s:Int),.func fn fb fc] t No (fun r t' => ∃ b,r = .pointer (some ⟨b,0,none⟩) ∧ t.w.heap.size ≤ b ∧ Bk t' b ([.int .i64 who,.int .i64 (s:Int),.func fn fb fc,.int .i64 0] ++ timeC zTime ++ [.int .i64 (-1)] ++ rep0 0) 198 g):=by
 refine Cal.en Tryz.func73 rfl Tryz.ntmps73<|WC.rs<|WL.a rfl<|WL.go<|WC.rs<|WL.m rfl<|WL.m rfl<|WL.m rfl<|WL.f (Fr.bd (vs:=[(0,.int .i64 who),(1,.int .i64 (s:Int)),(2,.func fn fb fc),(5,.int .i64 (-1))]) (cs:=#[.int .i64 who,.int .i64 (s:Int),.func fn fb fc,.int .i64 0,.int .u64 0,.int .u64 0,.bool false,.int .i64 (-1),.int .i64 0,.slice none 0 0,.slice none 0 0,.bool false]) rfl (fun w=>by kernel_rfl))<|WL.e (Ef.bx (g) (cs:=[.int .i64 who,.int .i64 (s:Int),.func fn fb fc,.int .i64 0,.int .u64 0,.int .u64 0,.bool false,.int .i64 (-1),.int .i64 0,.slice none 0 0,.slice none 0 0,.bool false]) rfl) ?_
 rintro _ t1 ⟨b11,rfl,s1,hb11,nb11,mb11⟩
 exact WL.a rfl<|WL.go<|WC.ret<|WQ.ret rfl (.tmp rfl .nil) (⟨_,rfl,mb11,hb11⟩)
theorem write_New1 {b b1 b2 b3 s:Nat} {h:HallS} (who:Int) (x:Opr) (uv:Value) (tm:Time) (t:TW) (hH:IsHall t b h) (ha:h.acts.length ≤ 899000) (hs:s < h.strs.length) (hs8:h.strs.length ≤ 8) (hB:BookOk (hStr h s).book) (htn0:0 ≤ tm.now) (htn1:tm.now ≤ 18446744073709551615) (ht0:0 ≤ x.ttl) (ht1:x.ttl ≤ 18446744073709551615) (hks:(h.feed s).ks.length ≤ 900000) (hok:QOk (h.feed s).q) (g1:Bk t b1 [.int .i64 who] 3 .fz) (g2:Bk t b2 [.int .i64 (s:Int)] 3 .fz) (g3:Bk t b3 (opC x uv) 56 .fz):Cal 90 [.pointer (some ⟨b,0,none⟩),.agg (timeC tm).toArray,.pointer (some ⟨b1,0,none⟩),.pointer (some ⟨b2,0,none⟩),.pointer (some ⟨b3,0,none⟩)] t (fun z=>z = .hall ∨ z = .acts ∨ z = .strs ∨ ∃ k,z = .ring s k ∨ z = .rrow s k) (fun r t' => r = .agg (rep0 (hWrite h who s x tm).2).toArray ∧ IsHall t' b (hWrite h who s x tm).1):=by
 refine Cal.en Tryz.func90 rfl Tryz.ntmps90<|WC.rs<|WL.e (Ef.bx (.loc 6) (cs:=[.int .u64 tm.now,.int .u64 tm.seq,.bool tm.closed]) rfl) ?_
 rintro _ t1 ⟨b6,rfl,s1,hb6,nb6,mb6⟩
 obtain ⟨g1,g2,g3,hH⟩:=Q4 (g1.n s1) (g2.n s1) (g3.n s1) (hH.n s1)
 refine WL.e (Ef.al (.loc 7) zr59) ?_
 rintro _ t2 ⟨b7,rfl,s2,hb7,nb7,mb7⟩
 obtain ⟨g1,g2,g3,hH,hb6⟩:=Q5 (g1.n s2) (g2.n s2) (g3.n s2) (hH.n s2) (hb6.n s2)
 refine WL.go<|WC.rs<|WL.m rfl<|WL.r (Rd.ld rfl sc3 (g1.cell rfl))<|WL.r (Rd.ld rfl sc3 (g2.cell rfl))<|WL.r (Rd.la rfl ag56 (g3.at (vs:=[.int .i64 x.kind,.string x.user,.int .i64 x.id,.int .i64 x.status,.int .i64 x.prio,.int .u64 x.ttl,uv]) rfl))<|WL.r (Rd.la rfl ag42 (hb6.at (vs:=[.int .u64 tm.now,.int .u64 tm.seq,.bool tm.closed]) rfl))<|WL.e (Ef.call rfl en91 (hall_Write who x uv tm _ hH ha hs hs8 hB htn0 htn1 ht0 ht1 hks hok) (fun _ h=>h)) ?_
 rintro _ t3 ⟨s3,rfl,hH⟩
 have hb7:=hb7.step s3 (by rintro (h | h | h | ⟨_,h | h⟩) <;> cases h)
 refine WL.f (Fr.bd (vs:=[(0,.int .i64 (hWrite h who s x tm).2)]) (cs:=#[.int .i64 (hWrite h who s x tm).2,.slice none 0 0,.slice none 0 0,.bool false]) rfl (fun w=>by kernel_rfl))<|WL.e0 (Ef.T [.int .i64 (hWrite h who s x tm).2,.slice none 0 0,.slice none 0 0,.bool false] rfl rfl hb7 sz59 (.inl nb7)) ?_
 rintro _ t4 ⟨u4,s4,hb7'⟩
 have hb7:Bk t4 b7 [.int .i64 (hWrite h who s x tm).2,.slice none 0 0,.slice none 0 0,.bool false] _ _:=hb7'
 clear hb7'
 have hH:=hH.n s4
 exact WL.go<|WC.ret<|WQ.ret rfl (.cell rfl (loadVar_ag ag59 rfl (hb7.at (vs:=[.int .i64 (hWrite h who s x tm).2,.slice none 0 0,.slice none 0 0,.bool false]) rfl)) .nil) (⟨rfl,hH⟩)
theorem sweep_begin1 {b b1 s:Nat} {h:HallS} (tm:Time) (t:TW) (hH:IsHall t b h) (ha:h.acts.length ≤ 899000) (hs:s < h.strs.length) (hs8:h.strs.length ≤ 8) (hB:BookLe (hStr h s).book 300000 600000) (hks:(h.feed s).ks.length ≤ 900000) (hok:QOk (h.feed s).q) (g1:Bk t b1 [.int .i64 (s:Int)] 3 .fz):Cal 74 [.pointer (some ⟨b,0,none⟩),.agg (timeC tm).toArray,.pointer (some ⟨b1,0,none⟩)] t (fun z=>z = .hall ∨ z = .acts ∨ z = .strs ∨ ∃ k,z = .ring s k ∨ z = .rrow s k) (fun r t' => r = .agg (rep0 0).toArray ∧ IsHall t' b (hSweep h 8 s tm)):=by
 refine Cal.en Tryz.func74 rfl Tryz.ntmps74<|WC.rs<|WL.e (Ef.bx (.loc 4) (cs:=[.int .u64 tm.now,.int .u64 tm.seq,.bool tm.closed]) rfl) ?_
 rintro _ t1 ⟨b4,rfl,s1,hb4,nb4,mb4⟩
 obtain ⟨g1,hH⟩:=Q2 (g1.n s1) (hH.n s1)
 refine WL.e (Ef.al (.loc 5) zr59) ?_
 rintro _ t2 ⟨b5,rfl,s2,hb5,nb5,mb5⟩
 obtain ⟨g1,hH,hb4⟩:=Q3 (g1.n s2) (hH.n s2) (hb4.n s2)
 refine WL.go<|WC.rs<|WL.m rfl<|WL.r (Rd.ld rfl sc3 (g1.cell rfl))<|WL.r (Rd.la rfl ag42 (hb4.at (vs:=[.int .u64 tm.now,.int .u64 tm.seq,.bool tm.closed]) rfl))<|WL.e (Ef.call rfl en75 (hall_Sweep 8 tm _ hH ha hs hs8 hB hks hok) (fun _ h=>h)) ?_
 rintro _ t3 ⟨s3,hH⟩
 have hb5:=hb5.step s3 (by rintro (h | h | h | ⟨_,h | h⟩) <;> cases h)
 refine WL.go<|WC.rs<|WL.f (Fr.bd (vs:=[]) (cs:=#[.int .i64 0,.slice none 0 0,.slice none 0 0,.bool false]) rfl (fun w=>by kernel_rfl))<|WL.e0 (Ef.T [.int .i64 0,.slice none 0 0,.slice none 0 0,.bool false] rfl rfl hb5 sz59 (.inl nb5)) ?_
 rintro _ t4 ⟨u4,s4,hb5'⟩
 have hb5:Bk t4 b5 [.int .i64 0,.slice none 0 0,.slice none 0 0,.bool false] _ _:=hb5'
 clear hb5'
 have hH:=hH.n s4
 exact WL.go<|WC.ret<|WQ.ret rfl (.cell rfl (loadVar_ag ag59 rfl (hb5.at (vs:=[.int .i64 0,.slice none 0 0,.slice none 0 0,.bool false]) rfl)) .nil) (⟨rfl,hH⟩)
theorem write_lock {b bp a n:Nat} {av:Value} {p:WProc} {h:HallS} (t:TW) (hp:Bk t bp (wpC p av) 198 (.obj a n)) (hH:IsHall t b h) (ha:h.acts.length ≤ 899000) (hs:p.s < h.strs.length) (hs8:h.strs.length ≤ 8) (hw:p.who ≤ 1000):Cal 131 [.pointer (some ⟨bp,0,none⟩),.pointer (some ⟨b,0,none⟩)] t (fun z=>z = .hall ∨ z = .acts ∨ z = .strs) (fun r t' => IsHall t' b (hLock h p.who p.s).1):=by
 refine Cal.en Tryz.func131 rfl Tryz.ntmps131<|WC.dr (fun w=>At w bp 0 [.int .i64 p.who] ∧ True) .body (⟨hp.at rfl,trivial⟩) ?_
 obtain ⟨hH,hp⟩:=Q2 (hH.n (TW.drew_step _)) (hp.n (TW.drew_step _))
 refine DL.m 0 rfl rfl<|DL.m 1 rfl rfl<|DL.fx 2 rfl (Fr.ncP rfl)<|DL.fx 3 rfl (Fr.q 0 rfl fa198_0)<|DL.m 5 rfl rfl<|DL.fx 6 rfl (Fr.ncP rfl)<|DL.fx 7 rfl (Fr.q 1 rfl fa198_1)<|DL.hx 4 rfl (fun w hw=>Rd.ld rfl sc3 (hw.1.one rfl))<|DL.rx 8 rfl (Rd.ld rfl sc3 (hp.cell rfl))<|DL.ex 9 rfl (Ef.call rfl en154 ((hall_Lock p.who _ hH (Nat.le_trans ha (by decide)) hs hs8 hw).post fun _ _ _ hh=>hh.2) (fun _ h=>h)) (fun _ _ ⟨s,_⟩=>⟨(hp.step s (by rintro (h | h | h) <;> cases h)).at rfl,trivial⟩) ?_
 rintro v13 t1 ⟨s1,hH⟩
 exact DL.D<|WQ.end_ rfl .nil (hH)
theorem write_begin {b bp a n:Nat} {av:Value} {p:WProc} {h:HallS} (t:TW) (hp:Bk t bp (wpC p av) 198 (.obj a n)) (hH:IsHall t b h) (ha:h.acts.length ≤ 899000) (hs:p.s < h.strs.length) (hs8:h.strs.length ≤ 8) (hc0:0 ≤ (hStr h p.s).cv) (hc1:(hStr h p.s).cv < 18446744073709551615):Cal 132 [.pointer (some ⟨bp,0,none⟩),.pointer (some ⟨b,0,none⟩)] t (fun z=>z = .hall ∨ z = .acts ∨ z = .strs) (fun r t' => IsHall t' b (hBegin h p.who p.s)):=by
 refine Cal.en Tryz.func132 rfl Tryz.ntmps132<|WC.dr (fun w=>At w bp 0 [.int .i64 p.who] ∧ True) .body (⟨hp.at rfl,trivial⟩) ?_
 obtain ⟨hH,hp⟩:=Q2 (hH.n (TW.drew_step _)) (hp.n (TW.drew_step _))
 refine DL.m 0 rfl rfl<|DL.m 1 rfl rfl<|DL.fx 2 rfl (Fr.ncP rfl)<|DL.fx 3 rfl (Fr.q 0 rfl fa198_0)<|DL.m 5 rfl rfl<|DL.fx 6 rfl (Fr.ncP rfl)<|DL.fx 7 rfl (Fr.q 1 rfl fa198_1)<|DL.hx 4 rfl (fun w hw=>Rd.ld rfl sc3 (hw.1.one rfl))<|DL.rx 8 rfl (Rd.ld rfl sc3 (hp.cell rfl))<|DL.ex 9 rfl (Ef.call rfl en162 (hall_Begin p.who _ hH (Nat.le_trans ha (by decide)) hs hs8 hc0 hc1) (fun _ h=>h)) (fun _ _ ⟨s,_⟩=>⟨(hp.step s (by rintro (h | h | h) <;> cases h)).at rfl,trivial⟩) ?_
 rintro v13 t1 ⟨s1,hH⟩
 exact DL.D<|WQ.end_ rfl .nil (hH)
theorem write_publish {b bp a n:Nat} {av:Value} {p:WProc} {h:HallS} (t:TW) (hp:Bk t bp (wpC p av) 198 (.obj a n)) (hH:IsHall t b h) (ha:h.acts.length ≤ 899000) (hs:p.s < h.strs.length) (hs8:h.strs.length ≤ 8)  : Cal 135 [.pointer (some ⟨bp,0,none⟩),.pointer (some ⟨b,0,none⟩)] t (fun z=>z = .hall ∨ z = .acts ∨ z = .strs) (fun r t' => IsHall t' b (hPublish h p.who p.s)):=by
 refine Cal.en Tryz.func135 rfl Tryz.ntmps135<|WC.dr (fun w=>At w bp 0 [.int .i64 p.who] ∧ True) .body (⟨hp.at rfl,trivial⟩) ?_
 obtain ⟨hH,hp⟩:=Q2 (hH.n (TW.drew_step _)) (hp.n (TW.drew_step _))
 refine DL.m 0 rfl rfl<|DL.m 1 rfl rfl<|DL.fx 2 rfl (Fr.ncP rfl)<|DL.fx 3 rfl (Fr.q 0 rfl fa198_0)<|DL.m 5 rfl rfl<|DL.fx 6 rfl (Fr.ncP rfl)<|DL.fx 7 rfl (Fr.q 1 rfl fa198_1)<|DL.hx 4 rfl (fun w hw=>Rd.ld rfl sc3 (hw.1.one rfl))<|DL.rx 8 rfl (Rd.ld rfl sc3 (hp.cell rfl))<|DL.ex 9 rfl (Ef.call rfl en164 (hall_Publish p.who _ hH ha hs hs8) (fun _ h=>h)) (fun _ _ ⟨s,_⟩=>⟨(hp.step s (by rintro (h | h | h) <;> cases h)).at rfl,trivial⟩) ?_
 rintro v13 t1 ⟨s1,hH⟩
 exact DL.D<|WQ.end_ rfl .nil (hH)
theorem write_end {b bp a n:Nat} {av:Value} {p:WProc} {h:HallS} (t:TW) (hp:Bk t bp (wpC p av) 198 (.obj a n)) (hH:IsHall t b h) (ha:h.acts.length ≤ 899000) (hs:p.s < h.strs.length) (hs8:h.strs.length ≤ 8) (hc0:0 ≤ (hStr h p.s).cv) (hc1:(hStr h p.s).cv < 18446744073709551615):Cal 136 [.pointer (some ⟨bp,0,none⟩),.pointer (some ⟨b,0,none⟩)] t (fun z=>z = .hall ∨ z = .acts ∨ z = .strs) (fun r t' => IsHall t' b (hEnd h p.who p.s)):=by
 refine Cal.en Tryz.func136 rfl Tryz.ntmps136<|WC.dr (fun w=>At w bp 0 [.int .i64 p.who] ∧ True) .body (⟨hp.at rfl,trivial⟩) ?_
 obtain ⟨hH,hp⟩:=Q2 (hH.n (TW.drew_step _)) (hp.n (TW.drew_step _))
 refine DL.m 0 rfl rfl<|DL.m 1 rfl rfl<|DL.fx 2 rfl (Fr.ncP rfl)<|DL.fx 3 rfl (Fr.q 0 rfl fa198_0)<|DL.m 5 rfl rfl<|DL.fx 6 rfl (Fr.ncP rfl)<|DL.fx 7 rfl (Fr.q 1 rfl fa198_1)<|DL.hx 4 rfl (fun w hw=>Rd.ld rfl sc3 (hw.1.one rfl))<|DL.rx 8 rfl (Rd.ld rfl sc3 (hp.cell rfl))<|DL.ex 9 rfl (Ef.call rfl en165 (hall_End p.who _ hH (Nat.le_trans ha (by decide)) hs hs8 hc0 hc1) (fun _ h=>h)) (fun _ _ ⟨s,_⟩=>⟨(hp.step s (by rintro (h | h | h) <;> cases h)).at rfl,trivial⟩) ?_
 rintro v13 t1 ⟨s1,hH⟩
 exact DL.D<|WQ.end_ rfl .nil (hH)
theorem write_unlock {b bp a n:Nat} {av:Value} {p:WProc} {h:HallS} (t:TW) (hp:Bk t bp (wpC p av) 198 (.obj a n)) (hH:IsHall t b h) (ha:h.acts.length ≤ 899000) (hs:p.s < h.strs.length) (hs8:h.strs.length ≤ 8) (hl0:0 ≤ (hStr h p.s).latch) (hl1:(hStr h p.s).latch ≤ 1000):Cal 137 [.pointer (some ⟨bp,0,none⟩),.pointer (some ⟨b,0,none⟩)] t (fun z=>z = .hall ∨ z = .acts ∨ z = .strs) (fun r t' => IsHall t' b (hUnlock h p.who p.s).1):=by
 refine Cal.en Tryz.func137 rfl Tryz.ntmps137<|WC.dr (fun w=>At w bp 0 [.int .i64 p.who] ∧ True) .body (⟨hp.at rfl,trivial⟩) ?_
 obtain ⟨hH,hp⟩:=Q2 (hH.n (TW.drew_step _)) (hp.n (TW.drew_step _))
 refine DL.m 0 rfl rfl<|DL.m 1 rfl rfl<|DL.fx 2 rfl (Fr.ncP rfl)<|DL.fx 3 rfl (Fr.q 0 rfl fa198_0)<|DL.m 5 rfl rfl<|DL.fx 6 rfl (Fr.ncP rfl)<|DL.fx 7 rfl (Fr.q 1 rfl fa198_1)<|DL.hx 4 rfl (fun w hw=>Rd.ld rfl sc3 (hw.1.one rfl))<|DL.rx 8 rfl (Rd.ld rfl sc3 (hp.cell rfl))<|DL.ex 9 rfl (Ef.call rfl en121 ((hall_Unlock p.who _ hH (Nat.le_trans ha (by decide)) hs hs8 hl0 hl1).post fun _ _ _ hh=>hh.2) (fun _ h=>h)) (fun _ _ ⟨s,_⟩=>⟨(hp.step s (by rintro (h | h | h) <;> cases h)).at rfl,trivial⟩) ?_
 rintro v13 t1 ⟨s1,hH⟩
 exact DL.D<|WQ.end_ rfl .nil (hH)
theorem write_take {b bp a n:Nat} {av:Value} {p:WProc} {h:HallS} (t:TW) (hp:Bk t bp (wpC p av) 198 (.obj a n)) (hH:IsHall t b h) (ha:h.acts.length ≤ 899000) (ht0:0 ≤ h.time.now ∧ h.time.now ≤ 18446744073709551615) (ht1:0 ≤ h.time.seq ∧ h.time.seq ≤ 18446744073709551615):Cal 133 [.pointer (some ⟨bp,0,none⟩),.pointer (some ⟨b,0,none⟩)] t (fun z=>z = .hall ∨ z = .acts ∨ z = .obj a n) (fun r t' => IsHall t' b (hTake h p.who) ∧ Bk t' bp (wpC { p with time:=(hTake h p.who).time } av) 198 (.obj a n)):=by
 refine Cal.en Tryz.func133 rfl Tryz.ntmps133<|WC.rg<|WL.m rfl<|WL.m rfl<|WL.m rfl<|WL.f (Fr.ncP rfl)<|WL.q 0 rfl fa198_0<|WL.r (Rd.ld rfl sc3 (hp.cell rfl))<|WL.e (Ef.call rfl en163 (hall_Take p.who _ hH (Nat.le_trans ha (by decide)) ht0 ht1) (fun _ h=>h.elim .inl (fun h=>.inr (.inl h)))) ?_
 rintro _ t1 ⟨s1,rfl,hH⟩
 have hp:=hp.n s1
 refine WL.f (Fr.ncP rfl)<|WL.q 4 rfl fa198_4<|WL.e0 (Ef.T [.int .u64 (hTake h p.who).time.now,.int .u64 (hTake h p.who).time.seq,.bool (hTake h p.who).time.closed] rfl rfl hp sz42 (.inr (.inr (.inr rfl)))) ?_
 rintro _ t2 ⟨u2,s2,hp'⟩
 have hp:Bk t2 bp [.int .i64 p.who,.int .i64 (p.s:Int),av,.int .i64 (p.at_:Int),.int .u64 (hTake h p.who).time.now,.int .u64 (hTake h p.who).time.seq,.bool (hTake h p.who).time.closed,.int .i64 p.placed,.int .i64 p.err,.slice none 0 0,.slice none 0 0,.bool false] _ _:=hp'
 clear hp'
 have hH:=hH.n s2
 exact WL.nil<|WQ.end_ rfl .nil (⟨hH,hp⟩)
section
variable {n:Sz} {E:Env} {dd:Option Nat} {ty:TypeId} {pos:String} {af:Array Edge} {gd:Option (Nat × Bool)} {x:Operand}
theorem run_eqF0 {t:TypeId} {a b c} (ht:P.underlying t = some (.func a b c)) (w:World):(Op.equal t .nilFunc .nilFunc).run P w = .ok true w:=by
 have h1:∀ k,(Op.equalIn (k + 1) t .nilFunc .nilFunc).run P w = .ok true w:=fun k=>by
  simp only [Op.equalIn,Sem.run_bind,run_under ht,Result.andThen_ok,Sem.run_pure]
 exact h1 9999
theorem run_eqF1 {t:TypeId} {a b c} (ht:P.underlying t = some (.func a b c)) (w:World) (f:Fn) (p q:Array Value):(Op.equal t (.func f p q) .nilFunc).run P w = .ok false w:=by
 have h1:∀ k,(Op.equalIn (k + 1) t (.func f p q) .nilFunc).run P w = .ok false w:=fun k=>by
  simp only [Op.equalIn,Sem.run_bind,run_under ht,Result.andThen_ok,Sem.run_pure]
 exact h1 9999
theorem Fr.nilF0 {t t' : TypeId} {a b c} (h:ev E x = some .nilFunc) (ht:P.underlying t = some (.func a b c)) :
  Fr n ⟨dd,.binOp .eql t x (.const .nilFunc) t', ty,pos,af,gd⟩ E (.bool true):=Fr.bo' h rfl fun w=>by
 have hg:eqGuard .eql t x (.const .nilFunc) .nilFunc .nilFunc = pure ():=by cases x <;> rfl
 rw [hg,pure_bind]
 show (do pure (Value.bool (← Op.equal t .nilFunc .nilFunc)):Sem Value).run P w = _
 rw [Sem.run_bind,run_eqF0 ht]
 rfl
theorem Fr.nilF1 {t t' : TypeId} {a b c} {f:Fn} {p q:Array Value} (h:ev E x = some (.func f p q)) (ht:P.underlying t = some (.func a b c)) :
  Fr n ⟨dd,.binOp .eql t x (.const .nilFunc) t', ty,pos,af,gd⟩ E (.bool false):=Fr.bo' h rfl fun w=>by
 have hg:eqGuard .eql t x (.const .nilFunc) (.func f p q) .nilFunc = pure ():=by cases x <;> rfl
 rw [hg,pure_bind]
 show (do pure (Value.bool (← Op.equal t (.func f p q) .nilFunc)):Sem Value).run P w = _
 rw [Sem.run_bind,run_eqF1 ht]
 rfl
theorem Fr.nilFq {t t' : TypeId} {a b c} {av:Value} {q:Bool} (h:ev E x = some av) (ht:P.underlying t = some (.func a b c)) (hA:(av = .nilFunc ∧ q = true) ∨ ∃ f p r,av = .func f p r ∧ q = false) :
  Fr n ⟨dd,.binOp .eql t x (.const .nilFunc) t', ty,pos,af,gd⟩ E (.bool q):=by
 rcases hA with ⟨rfl,rfl⟩ | ⟨f,p,r,rfl,rfl⟩
 ·exact Fr.nilF0 h ht
 exact Fr.nilF1 h ht
end
theorem write_steps (t:TW):Cal 103 [] t No (fun r t' => ∃ b,r = .slice (some ⟨b,0,none⟩) 7 7 ∧ t.w.heap.size ≤ b ∧ Bk t' b [.func (.func 131) #[] #[],.func (.func 132) #[] #[],.func (.func 133) #[] #[],.func (.func 134) #[] #[],.func (.func 135) #[] #[],.func (.func 136) #[] #[],.func (.func 137) #[] #[]] 220 (.loc 1)):=by
 refine Cal.en Tryz.func103 rfl Tryz.ntmps103<|WC.rs<|WL.a rfl<|WL.go<|WC.rs<|WL.e (Ef.bs (.loc 1) (vs:=[(0,.func (.func 131) #[] #[]),(1,.func (.func 132) #[] #[]),(2,.func (.func 133) #[] #[]),(3,.func (.func 134) #[] #[]),(4,.func (.func 135) #[] #[]),(5,.func (.func 136) #[] #[]),(6,.func (.func 137) #[] #[])]) (cs:=[.func (.func 131) #[] #[],.func (.func 132) #[] #[],.func (.func 133) #[] #[],.func (.func 134) #[] #[],.func (.func 135) #[] #[],.func (.func 136) #[] #[],.func (.func 137) #[] #[]]) (e:=220) rfl (fun w=>by kernel_rfl)) ?_
 rintro _ t1 ⟨b1,rfl,s1,hb1,nb1,_⟩
 exact WL.a rfl<|WL.go<|WC.ret<|WQ.ret rfl (.tmp rfl .nil) (⟨_,rfl,nb1,hb1⟩)
theorem write_Done {bp:Nat} {g:Tag} {av:Value} {p:WProc} (t:TW) (hp:Bk t bp (wpC p av) 198 g):Cal 81 [.pointer (some ⟨bp,0,none⟩)] t No (fun r t' => r = .bool (decide (7 ≤ (p.at_:Int)))):=by
 refine Cal.en Tryz.func81 rfl Tryz.ntmps81<|WC.rs<|WL.a rfl<|WL.go<|WC.drs (fun w=>At w bp 3 [.int .i64 (p.at_:Int)] ∧ True) .body (⟨hp.at rfl,trivial⟩) ?_
 have hp:=hp.n (TW.drew_step _)
 refine DL.m 0 rfl rfl<|DL.fx 1 rfl (Fr.ncP rfl)<|DL.fx 2 rfl (Fr.q 3 rfl fa198_3)<|DL.hx 3 rfl (fun w hw=>Rd.ld rfl sc3 (hw.1.one rfl))<|DL.ex 4 rfl (Ef.call rfl en103 (write_steps _) (fun _ h=>h.elim)) (fun _ _ ⟨s,_⟩=>⟨hp.a s,trivial⟩) ?_
 rintro _ t1 ⟨s1,b7,rfl,mb7,hb7⟩
 exact DL.fx 5 rfl (Fr.ln rfl Tryz.underlying218)<|DL.fx 6 rfl (Fr.bo rfl rfl BO.ge)<|DL.fx 7 rfl (Fr.as rfl)<|DL.D<|WQ.n<|WC.ret<|WQ.ret rfl (.tmp rfl .nil) (rfl)
theorem write_Placed {bp:Nat} {g:Tag} {av:Value} {p:WProc} (t:TW) (hp:Bk t bp (wpC p av) 198 g):Cal 83 [.pointer (some ⟨bp,0,none⟩)] t No (fun r t' => r = .int .i64 p.placed):=by
 refine Cal.en Tryz.func83 rfl Tryz.ntmps83<|WC.rs<|WL.a rfl<|WL.go<|WC.rs<|WL.m rfl<|WL.f (Fr.ncP rfl)<|WL.q 7 rfl fa198_5<|WL.r (Rd.ld rfl sc3 (hp.cell rfl))<|WL.a rfl ?_
 exact WL.go<|WC.ret<|WQ.ret rfl (.tmp rfl .nil) (rfl)
theorem write_Reply {bp a n:Nat} {av:Value} {p:WProc} (t:TW) (hp:Bk t bp (wpC p av) 198 (.obj a n)):Cal 239 [.pointer (some ⟨bp,0,none⟩)] t No (fun r t' => r = .agg (rep0 (if 7 ≤ (p.at_:Int) then p.err else 0)).toArray):=by
 refine Cal.en Tryz.func239 rfl Tryz.ntmps239<|WC.rs<|WL.e (Ef.al (.loc 2) zr59) ?_
 rintro _ t1 ⟨b2,rfl,s1,hb2,nb2,mb2⟩
 have hp:=hp.n s1
 refine WL.go<|WC.seq<|WC.rs<|WL.m rfl<|WL.e (Ef.call rfl en81 (write_Done _ hp) (fun _ h=>h.elim)) ?_
 rintro _ t2 ⟨s2,rfl⟩
 obtain ⟨hb2,hp⟩:=Q2 (hb2.n s2) (hp.n s2)
 refine WL.f (Fr.un_not rfl)<|WL.go ?_
 refine WC.condS rfl (fun hcond5=>?_) (fun hcond5=>?_)
 ·refine WC.rs<|WL.f (Fr.bd (vs:=[]) (cs:=#[.int .i64 0,.slice none 0 0,.slice none 0 0,.bool false]) rfl (fun w=>by kernel_rfl))<|WL.e0 (Ef.T [.int .i64 0,.slice none 0 0,.slice none 0 0,.bool false] rfl rfl hb2 sz59 (.inl nb2)) ?_
  rintro _ t3 ⟨u3,s3,hb2'⟩
  have hb2:Bk t3 b2 [.int .i64 0,.slice none 0 0,.slice none 0 0,.bool false] _ _:=hb2'
  clear hb2'
  exact WL.go<|WC.ret<|WQ.tr<|WQ.ret rfl (.cell rfl (loadVar_ag ag59 rfl (hb2.at (vs:=[.int .i64 0,.slice none 0 0,.slice none 0 0,.bool false]) rfl)) .nil) (by rw [if_neg (by simpa using hcond5)]; rfl)
 refine WC.skip<|WQ.n<|WC.rs<|WL.m rfl<|WL.f (Fr.ncP rfl)<|WL.q 8 rfl fa198_6<|WL.r (Rd.la rfl ag59 (hp.at (vs:=[.int .i64 p.err,.slice none 0 0,.slice none 0 0,.bool false]) rfl))<|WL.e0 (Ef.T [.int .i64 p.err,.slice none 0 0,.slice none 0 0,.bool false] rfl rfl hb2 sz59 (.inl nb2)) ?_
 rintro _ t4 ⟨u4,s4,hb2'⟩
 have hb2:Bk t4 b2 [.int .i64 p.err,.slice none 0 0,.slice none 0 0,.bool false] _ _:=hb2'
 clear hb2'
 exact WL.go<|WC.ret<|WQ.ret rfl (.cell rfl (loadVar_ag ag59 rfl (hb2.at (vs:=[.int .i64 p.err,.slice none 0 0,.slice none 0 0,.bool false]) rfl)) .nil) (by rw [if_pos (by simpa using hcond5)]; rfl)
theorem ApR.nil {t:TW} {av:Value} {who:Int} {s:Nat} {a:WAct} (h:ApR t av who s a):(av = .nilFunc ∧ nilAct a = true) ∨ ∃ f p r,av = .func f p r ∧ nilAct a = false:=by
 cases a with
 | bad=>exact .inl ⟨h,rfl⟩
 | wr x=>
  obtain ⟨b1,b2,b3,uv,e,_⟩:=h
  exact .inr ⟨_,_,_,e,rfl⟩
 | sw=>
  obtain ⟨_,b1,e,_⟩:=h
  exact .inr ⟨_,_,_,e,rfl⟩
theorem write_Waits {bp:Nat} {g:Tag} {av:Value} {p:WProc} (t:TW) (hp:Bk t bp (wpC p av) 198 g) (hA:ApR t av p.who p.s p.act):Cal 101 [.pointer (some ⟨bp,0,none⟩)] t No (fun r t' => r = .int .i64 (wWaits p)):=by
 refine Cal.en Tryz.func101 rfl Tryz.ntmps101<|WC.rs<|WL.a rfl<|WL.go<|WC.seq<|WC.rs<|WL.m rfl<|WL.f (Fr.ncP rfl)<|WL.q 2 rfl fa198_2<|WL.r (Rd.ld rfl sc186 (hp.cell rfl)) ?_
 refine WL.f (Fr.nilFq rfl Tryz.underlying186 hA.nil)<|WL.m rfl ?_
 refine WL.pin 8 rfl (fun hp8=>?_) (fun hp8=>?_)
 ·refine WL.s<|WL.s<|WL.s<|WL.s<|WL.s<|WL.f (Fr.pkT rfl rfl)<|WL.go<|WC.condT<|WC.rs<|WL.a rfl ?_
  exact WL.go<|WC.ret<|WQ.tr<|WQ.ret rfl (.tmp rfl .nil) (by unfold wWaits; rw [if_pos (.inl hp8)]; rfl)
 refine WL.m rfl<|WL.f (Fr.ncP rfl)<|WL.q 3 rfl fa198_3<|WL.r (Rd.ld rfl sc3 (hp.cell rfl))<|WL.f (Fr.bo rfl rfl BO.gt)<|WL.f (Fr.pkF rfl rfl)<|WL.go ?_
 refine WC.condS rfl (fun hcond14=>?_) (fun hcond14=>?_)
 ·exact WC.rs<|WL.a rfl<|WL.go<|WC.ret<|WQ.tr<|WQ.ret rfl (.tmp rfl .nil) (by unfold wWaits; rw [if_pos (.inr (by simpa using hcond14))]; rfl)
 refine WC.skip<|WQ.n<|WC.rs<|WL.m rfl<|WL.f (Fr.ncP rfl)<|WL.q 1 rfl fa198_1<|WL.r (Rd.ld rfl sc3 (hp.cell rfl))<|WL.a rfl<|WL.go<|WC.ret ?_
 exact WQ.ret rfl (.tmp rfl .nil) (by unfold wWaits; rw [if_neg (by rintro (h | h) <;> simp_all)]; rfl)
theorem write_Enabled {bp b:Nat} {g:Tag} {av:Value} {p:WProc} {h:HallS} (t:TW) (hp:Bk t bp (wpC p av) 198 g) (hA:ApR t av p.who p.s p.act) (hH:IsHall t b h) (hs:p.s < h.strs.length) (hs8:h.strs.length ≤ 8):Cal 79 [.pointer (some ⟨bp,0,none⟩),.pointer (some ⟨b,0,none⟩)] t No (fun r t' => r = .bool (wEnabled h p)):=by
 refine Cal.en Tryz.func79 rfl Tryz.ntmps79<|WC.rs<|WL.a rfl<|WL.go<|WC.rs<|WL.m rfl<|WL.e (Ef.call rfl en81 (write_Done _ hp) (fun _ h=>h.elim)) ?_
 rintro _ t1 ⟨s1,rfl⟩
 obtain ⟨hA,hH,hp⟩:=Q3 (hA.n s1) (hH.n s1) (hp.n s1)
 refine WL.f (Fr.un_not rfl)<|WL.m rfl ?_
 refine WL.pin 8 rfl (fun hp8=>?_) (fun hp8=>?_)
 ·refine WL.m rfl<|WL.e (Ef.call rfl en101 (write_Waits _ hp hA) (fun _ h=>h.elim)) ?_
  rintro _ t2 ⟨s2,rfl⟩
  obtain ⟨hH,hp⟩:=Q2 (hH.n s2) (hp.n s2)
  refine WL.f (Fr.bo rfl rfl BO.lt)<|WL.m rfl ?_
  refine WL.pin 12 rfl (fun hp12=>?_) (fun hp12=>?_)
  ·refine WL.s<|WL.s<|WL.s<|WL.s<|WL.s<|WL.s<|WL.f (Fr.pkT rfl rfl)<|WL.f (Fr.pkT rfl rfl)<|WL.a rfl<|WL.go ?_
   exact WC.ret<|WQ.ret rfl (.tmp rfl .nil) (by show Value.bool _ = Value.bool _; unfold wEnabled wDone; simp_all <;> omega)
  refine WL.m rfl<|WL.m rfl<|WL.f (Fr.ncP rfl)<|WL.q 1 rfl fa198_1<|WL.r (Rd.ld rfl sc3 (hp.cell rfl))<|WL.e (Ef.call rfl en102 (hall_Free _ hH hs hs8) (fun _ h=>h.elim)) ?_
  rintro _ t3 ⟨s3,rfl⟩
  exact WL.f (Fr.pkF rfl rfl)<|WL.f (Fr.pkT rfl rfl)<|WL.a rfl<|WL.go<|WC.ret<|WQ.ret rfl (.tmp rfl .nil) (by have h7:decide (7 ≤ p.at_) = false:=decide_eq_false (by simp at hp8; omega); have h0:decide (wWaits p < 0) = false:=hp12; show Value.bool _ = Value.bool _; unfold wEnabled wDone; rw [h7,h0]; simp)
 refine WL.s<|WL.s<|WL.s<|WL.s<|WL.s<|WL.s<|WL.s<|WL.s<|WL.s<|WL.s ?_
 exact WL.s<|WL.f (Fr.pkF rfl rfl)<|WL.a rfl<|WL.go<|WC.ret<|WQ.ret rfl (.tmp rfl .nil) (by show Value.bool _ = Value.bool _; unfold wEnabled wDone; simp_all <;> omega)
theorem write_write_wr {bp b a n b1 b2 b3:Nat} {p:WProc} {h:HallS} (t:TW) (hp:Bk t bp (wpC p (.func (.func 90) #[] #[.pointer (some ⟨b1,0,none⟩),.pointer (some ⟨b2,0,none⟩),.pointer (some ⟨b3,0,none⟩)])) 198 (.obj a n)) (hH:IsHall t b h) (ha:h.acts.length ≤ 899000) (hs:p.s < h.strs.length) (hs8:h.strs.length ≤ 8) (hks:(h.feed p.s).ks.length ≤ 900000) (hok:QOk (h.feed p.s).q) {x:Opr} {uv:Value} (hB:BookOk (hStr h p.s).book) (htn0:0 ≤ p.time.now) (htn1:p.time.now ≤ 18446744073709551615) (ht0:0 ≤ x.ttl) (ht1:x.ttl ≤ 18446744073709551615) (g1:Bk t b1 [.int .i64 p.who] 3 .fz) (g2:Bk t b2 [.int .i64 (p.s:Int)] 3 .fz) (g3:Bk t b3 (opC x uv) 56 .fz):Cal 134 [.pointer (some ⟨bp,0,none⟩),.pointer (some ⟨b,0,none⟩)] t (fun z=>z = .hall ∨ z = .acts ∨ z = .strs ∨ (∃ k,z = .ring p.s k ∨ z = .rrow p.s k) ∨ z = .obj a n) (fun r t' => IsHall t' b (hWrite h p.who p.s x p.time).1 ∧ Bk t' bp (wpC { p with err:=(hWrite h p.who p.s x p.time).2 } (.func (.func 90) #[] #[.pointer (some ⟨b1,0,none⟩),.pointer (some ⟨b2,0,none⟩),.pointer (some ⟨b3,0,none⟩)])) 198 (.obj a n)):=by
 refine Cal.en Tryz.func134 rfl Tryz.ntmps134<|WC.dr (fun w=>At w bp 2 [.func (.func 90) #[] #[.pointer (some ⟨b1,0,none⟩),.pointer (some ⟨b2,0,none⟩),.pointer (some ⟨b3,0,none⟩)]] ∧ True) .body (⟨hp.at rfl,trivial⟩) ?_
 obtain ⟨g1,g2,g3,hH,hp⟩:=Q5 (g1.n (TW.drew_step _)) (g2.n (TW.drew_step _)) (g3.n (TW.drew_step _)) (hH.n (TW.drew_step _)) (hp.n (TW.drew_step _))
 refine DL.m 0 rfl rfl<|DL.m 1 rfl rfl<|DL.fx 2 rfl (Fr.ncP rfl)<|DL.fx 3 rfl (Fr.q 2 rfl fa198_2)<|DL.m 5 rfl rfl<|DL.m 6 rfl rfl<|DL.fx 7 rfl (Fr.ncP rfl)<|DL.fx 8 rfl (Fr.q 4 rfl fa198_4)<|DL.hx 4 rfl (fun w hw=>Rd.ld rfl sc186 (hw.1.one rfl))<|DL.rx 9 rfl (Rd.la rfl ag42 (hp.at (vs:=[.int .u64 p.time.now,.int .u64 p.time.seq,.bool p.time.closed]) rfl)) ?_
 refine DL.ex 10 rfl (Ef.callv (cap:=[.pointer (some ⟨b1,0,none⟩),.pointer (some ⟨b2,0,none⟩),.pointer (some ⟨b3,0,none⟩)]) rfl rfl en90 (write_New1 p.who x uv p.time _ hH ha hs hs8 hB htn0 htn1 ht0 ht1 hks hok g1 g2 g3) (fun _ h=>by rcases h with h | h | h | h <;> simp [h])) ((fun _ _ ⟨s,_⟩=>⟨(hp.step s (by rintro (h | h | h | ⟨_,h | h⟩) <;> cases h)).at rfl,trivial⟩)) ?_
 rintro _ t1 ⟨s1,rfl,hH⟩
 have hp:=hp.step s1 (by rintro (h | h | h | ⟨_,h | h⟩) <;> cases h)
 refine DL.fx 11 rfl (Fr.ncP rfl)<|DL.fx 12 rfl (Fr.q 8 rfl fa198_6)<|DL.e0x 13 rfl (Ef.T [.int .i64 ((hWrite h p.who p.s x p.time).2),.slice none 0 0,.slice none 0 0,.bool false] rfl rfl hp sz59 (.inr (.inr (.inr (.inr (.inr rfl)))))) ((fun _ _ ⟨_,_,hb⟩=>⟨hb.at rfl,trivial⟩)) ?_
 rintro _ t2 ⟨u2,s2,hp'⟩
 have hp:Bk t2 bp [.int .i64 p.who,.int .i64 (p.s:Int),.func (.func 90) #[] #[.pointer (some ⟨b1,0,none⟩),.pointer (some ⟨b2,0,none⟩),.pointer (some ⟨b3,0,none⟩)],.int .i64 (p.at_:Int),.int .u64 p.time.now,.int .u64 p.time.seq,.bool p.time.closed,.int .i64 p.placed,.int .i64 ((hWrite h p.who p.s x p.time).2),.slice none 0 0,.slice none 0 0,.bool false] _ _:=hp'
 clear hp'
 have hH:=hH.n s2
 exact DL.D<|WQ.end_ rfl .nil (⟨hH,hp⟩)
theorem write_write_sw {bp b a n b1:Nat} {p:WProc} {h:HallS} (t:TW) (hp:Bk t bp (wpC p (.func (.func 74) #[] #[.pointer (some ⟨b1,0,none⟩)])) 198 (.obj a n)) (hH:IsHall t b h) (ha:h.acts.length ≤ 899000) (hs:p.s < h.strs.length) (hs8:h.strs.length ≤ 8) (hks:(h.feed p.s).ks.length ≤ 900000) (hok:QOk (h.feed p.s).q) (hB:BookLe (hStr h p.s).book 300000 600000) (g1:Bk t b1 [.int .i64 (p.s:Int)] 3 .fz):Cal 134 [.pointer (some ⟨bp,0,none⟩),.pointer (some ⟨b,0,none⟩)] t (fun z=>z = .hall ∨ z = .acts ∨ z = .strs ∨ (∃ k,z = .ring p.s k ∨ z = .rrow p.s k) ∨ z = .obj a n) (fun r t' => IsHall t' b (hSweep h 8 p.s p.time) ∧ Bk t' bp (wpC { p with err:=0 } (.func (.func 74) #[] #[.pointer (some ⟨b1,0,none⟩)])) 198 (.obj a n)):=by
 refine Cal.en Tryz.func134 rfl Tryz.ntmps134<|WC.dr (fun w=>At w bp 2 [.func (.func 74) #[] #[.pointer (some ⟨b1,0,none⟩)]] ∧ True) .body (⟨hp.at rfl,trivial⟩) ?_
 obtain ⟨g1,hH,hp⟩:=Q3 (g1.n (TW.drew_step _)) (hH.n (TW.drew_step _)) (hp.n (TW.drew_step _))
 refine DL.m 0 rfl rfl<|DL.m 1 rfl rfl<|DL.fx 2 rfl (Fr.ncP rfl)<|DL.fx 3 rfl (Fr.q 2 rfl fa198_2)<|DL.m 5 rfl rfl<|DL.m 6 rfl rfl<|DL.fx 7 rfl (Fr.ncP rfl)<|DL.fx 8 rfl (Fr.q 4 rfl fa198_4)<|DL.hx 4 rfl (fun w hw=>Rd.ld rfl sc186 (hw.1.one rfl))<|DL.rx 9 rfl (Rd.la rfl ag42 (hp.at (vs:=[.int .u64 p.time.now,.int .u64 p.time.seq,.bool p.time.closed]) rfl)) ?_
 refine DL.ex 10 rfl (Ef.callv (cap:=[.pointer (some ⟨b1,0,none⟩)]) rfl rfl en74 (sweep_begin1 p.time _ hH ha hs hs8 hB hks hok g1) (fun _ h=>by rcases h with h | h | h | h <;> simp [h])) ((fun _ _ ⟨s,_⟩=>⟨(hp.step s (by rintro (h | h | h | ⟨_,h | h⟩) <;> cases h)).at rfl,trivial⟩)) ?_
 rintro _ t1 ⟨s1,rfl,hH⟩
 have hp:=hp.step s1 (by rintro (h | h | h | ⟨_,h | h⟩) <;> cases h)
 refine DL.fx 11 rfl (Fr.ncP rfl)<|DL.fx 12 rfl (Fr.q 8 rfl fa198_6)<|DL.e0x 13 rfl (Ef.T [.int .i64 0,.slice none 0 0,.slice none 0 0,.bool false] rfl rfl hp sz59 (.inr (.inr (.inr (.inr (.inr rfl)))))) ((fun _ _ ⟨_,_,hb⟩=>⟨hb.at rfl,trivial⟩)) ?_
 rintro _ t2 ⟨u2,s2,hp'⟩
 have hp:Bk t2 bp [.int .i64 p.who,.int .i64 (p.s:Int),.func (.func 74) #[] #[.pointer (some ⟨b1,0,none⟩)],.int .i64 (p.at_:Int),.int .u64 p.time.now,.int .u64 p.time.seq,.bool p.time.closed,.int .i64 p.placed,.int .i64 0,.slice none 0 0,.slice none 0 0,.bool false] _ _:=hp'
 clear hp'
 have hH:=hH.n s2
 exact DL.D<|WQ.end_ rfl .nil (⟨hH,hp⟩)
theorem write_New {b s a n:Nat} {h:HallS} {x:Opr} {uv:Value} (who:Int) (t:TW) (hH:IsHall t b h) (hst:stripeOf x.user h.cfg.stripes = (s:Int)) (hu:Sl t kStr uv x.users) (hl:x.users.length ≤ 1000000) (hus:x.user.size ≤ 1000000) (hn:h.cfg.stripes ≤ 1000000):Cal 76 [.pointer (some ⟨b,0,none⟩),.int .i64 who,.agg (opC x uv).toArray] t No (fun r t' => ∃ bp,r = .pointer (some ⟨bp,0,none⟩) ∧ t.w.heap.size ≤ bp ∧ IsW t' (.obj a n) bp (wNew who s x)):=by
 have hz:t.w.heap.size ≤ t.w.heap.size:=Nat.le_refl _
 refine Cal.en Tryz.func76 rfl Tryz.ntmps76<|WC.rs<|WL.e (Ef.bx (.fz) (cs:=[.int .i64 who]) rfl) ?_
 rintro _ t1 ⟨b4,rfl,s1,hb4,nb4,mb4⟩
 obtain ⟨hH,hu,hz⟩:=Q3 (hH.n s1) (hu.n s1) (Nat.le_trans hz s1.size)
 refine WL.e (Ef.bx (.fz) (cs:=[.int .i64 x.kind,.string x.user,.int .i64 x.id,.int .i64 x.status,.int .i64 x.prio,.int .u64 x.ttl,uv]) rfl) ?_
 rintro _ t2 ⟨b5,rfl,s2,hb5,nb5,mb5⟩
 obtain ⟨hH,hb4,hu,hz⟩:=Q4 (hH.n s2) (hb4.n s2) (hu.n s2) (Nat.le_trans hz s2.size)
 refine WL.a rfl<|WL.go<|WC.rs<|WL.m rfl<|WL.q 1 rfl fa56_1<|WL.r (Rd.ld rfl sc9 (hb5.cell rfl))<|WL.e (Ef.call rfl en89 (hall_Stripe x.user _ hH hus hn) (fun _ h=>h.elim)) ?_
 rintro _ t3 ⟨s3,rfl⟩
 obtain ⟨hb4,hb5,hu,hz⟩:=Q4 (hb4.n s3) (hb5.n s3) (hu.n s3) (Nat.le_trans hz s3.size)
 rw [hst]
 refine WL.e (Ef.al (.loc 7) zr3) ?_
 rintro _ t4 ⟨b7,rfl,s4,hb7,nb7,mb7⟩
 obtain ⟨hb4,hb5,hu,hz⟩:=Q4 (hb4.n s4) (hb5.n s4) (hu.n s4) (Nat.le_trans hz s4.size)
 refine WL.e0 (Ef.T [.int .i64 (s:Int)] rfl rfl hb7 sz3 (.inl nb7)) ?_
 rintro _ t5 ⟨u5,s5,hb7'⟩
 have hb7:Bk t5 b7 [.int .i64 (s:Int)] _ _:=hb7'
 clear hb7'
 obtain ⟨hb4,hb5,hu,hz⟩:=Q4 (hb4.n s5) (hb5.n s5) (hu.n s5) (Nat.le_trans hz s5.size)
 refine WL.go<|WC.rs<|WL.r (Rd.ld rfl sc3 (hb4.cell rfl))<|WL.r (Rd.ld rfl sc3 (hb7.cell rfl))<|WL.f (Fr.mf rfl) ?_
 have hz5:=hz
 refine WL.e (Ef.call rfl en73 (write_Section (.obj a n) who s (.func 90) _ _ _) (fun _ h=>h.elim)) ?_
 rintro _ t6 ⟨s6,b16,rfl,n16,h16⟩
 obtain ⟨hb4,hb5,hb7,hu,hz⟩:=Q5 (hb4.n s6) (hb5.n s6) (hb7.n s6) (hu.n s6) (Nat.le_trans hz s6.size)
 have n16:=Nat.le_trans hz5 n16
 refine WL.a rfl<|WL.go<|WC.seq<|WC.rs<|WL.r (Rd.la rfl ag56 (hb5.at (vs:=[.int .i64 x.kind,.string x.user,.int .i64 x.id,.int .i64 x.status,.int .i64 x.prio,.int .u64 x.ttl,uv]) rfl))<|WL.e (Ef.call rfl en92 (model_Bad x uv _ hu hl) (fun _ h=>h.elim)) ?_
 rintro _ t7 ⟨s7,rfl⟩
 obtain ⟨h16,hb4,hb5,hb7,hz⟩:=Q5 (h16.n s7) (hb4.n s7) (hb5.n s7) (hb7.n s7) (Nat.le_trans hz s7.size)
 refine WL.go ?_
 refine WC.condS rfl (fun hcond18=>?_) (fun hcond18=>?_)
 ·refine WC.rg<|WL.m rfl<|WL.f (Fr.ncP rfl)<|WL.q 2 rfl fa198_2<|WL.e0 (Ef.T [.nilFunc] rfl rfl h16 sz186 (.inl n16)) ?_
  rintro _ t8 ⟨u8,s8,h16'⟩
  have h16:Bk t8 b16 [.int .i64 who,.int .i64 (s:Int),.nilFunc,.int .i64 0,.int .u64 0,.int .u64 0,.bool false,.int .i64 (-1),.int .i64 0,.slice none 0 0,.slice none 0 0,.bool false] _ _:=h16'
  clear h16'
  obtain ⟨hb4,hb5,hb7,hz⟩:=Q4 (hb4.n s8) (hb5.n s8) (hb7.n s8) (Nat.le_trans hz s8.size)
  refine WL.nil<|WQ.n<|WC.rs<|WL.m rfl<|WL.a rfl<|WL.go<|WC.ret ?_
  have e:wNew who s x = ⟨who,s,.bad,0,zTime,-1,0⟩:=by unfold wNew; rw [if_pos hcond18]
  have st7:Step (fun q=>q = .loc 7) t8 (t8.tagv (.slice (some ⟨b7,0,none⟩) 0 0) .fz):=TW.tagv_step _ (fun b hb=>by simp [Value.ownBlock] at hb; subst hb; exact hb7.2)
  have h7:=hb7.frz
  have h4:=hb4.step st7 nofun
  have h5:=hb5.step st7 nofun
  have hq:=h16.step st7 nofun
  exact WQ.tag (.slice (some ⟨b7,0,none⟩) 0 0) .fz (.inl fun b hb=>by simp [Value.ownBlock] at hb; subst hb; exact nb7)<|WQ.ret rfl (.tmp rfl .nil) (⟨_,rfl,n16,by rw [e]; exact ⟨_,hq,rfl⟩⟩)
 refine WC.skip<|WQ.n<|WC.rs<|WL.m rfl<|WL.a rfl<|WL.go<|WC.ret ?_
 have e:wNew who s x = ⟨who,s,.wr x,0,zTime,-1,0⟩:=by unfold wNew; rw [if_neg (by simp [hcond18])]
 have st7:Step (fun q=>q = .loc 7) t7 (t7.tagv (.slice (some ⟨b7,0,none⟩) 0 0) .fz):=TW.tagv_step _ (fun b hb=>by simp [Value.ownBlock] at hb; subst hb; exact hb7.2)
 have h7:=hb7.frz
 have h4:=hb4.step st7 nofun
 have h5:=hb5.step st7 nofun
 have hq:=h16.step st7 nofun
 exact WQ.tag (.slice (some ⟨b7,0,none⟩) 0 0) .fz (.inl fun b hb=>by simp [Value.ownBlock] at hb; subst hb; exact nb7)<|WQ.ret rfl (.tmp rfl .nil) (⟨_,rfl,n16,by rw [e]; exact ⟨_,hq,_,_,_,_,rfl,h4,h7,h5⟩⟩)
structure WOk (h:HallS) (p:WProc):Prop where
 ha:h.acts.length ≤ 899000
 hs:p.s < h.strs.length
 hs8:h.strs.length ≤ 8
 hw:p.who ≤ 1000
 hc0:0 ≤ (hStr h p.s).cv
 hc1:(hStr h p.s).cv < 18446744073709551615
 hl0:0 ≤ (hStr h p.s).latch
 hl1:(hStr h p.s).latch ≤ 1000
 ht0:0 ≤ h.time.now ∧ h.time.now ≤ 18446744073709551615
 ht1:0 ≤ h.time.seq ∧ h.time.seq ≤ 18446744073709551615
 hp0:0 ≤ p.time.now
 hp1:p.time.now ≤ 18446744073709551615
 hks:(h.feed p.s).ks.length ≤ 900000
 hok:QOk (h.feed p.s).q
 act:match p.act with
  | .bad=>True
  | .wr x=>BookOk (hStr h p.s).book ∧ 0 ≤ x.ttl ∧ x.ttl ≤ 18446744073709551615
  | .sw=>BookLe (hStr h p.s).book 300000 600000
abbrev wT (p:WProc) (a n:Nat):Tag → Prop:=fun z=>z = .hall ∨ z = .acts ∨ z = .strs ∨ (∃ k,z = .ring p.s k ∨ z = .rrow p.s k) ∨ z = .obj a n
theorem wT3 {p:WProc} {a n:Nat}:∀ z,(z = .hall ∨ z = .acts ∨ z = .strs) → wT p a n z:=fun _ h=>by rcases h with h | h | h <;> simp [wT,h]
theorem ent_do:∀ i,i < 7 → Ent (131 + i)
 | 0,_=>en131 | 1,_=>en132 | 2,_=>en133 | 3,_=>en134 | 4,_=>en135 | 5,_=>en136 | 6,_=>en137
 | i + 7,h=>absurd h (Nat.not_lt.2 (Nat.le_add_left 7 i))
theorem write_do {bp b a n:Nat} {av:Value} {p:WProc} {h:HallS} (t:TW) (hp:Bk t bp (wpC p av) 198 (.obj a n)) (hA:ApR t av p.who p.s p.act) (hb:p.act ≠ .bad) (hH:IsHall t b h) (k:WOk h p) (i:Nat) (hi:i < 7) :
  Cal (131 + i) [.pointer (some ⟨bp,0,none⟩),.pointer (some ⟨b,0,none⟩)] t (wT p a n) (fun r t' => IsHall t' b (wDo h p i).1 ∧ Bk t' bp (wpC (wDo h p i).2 av) 198 (.obj a n)):=by
 have q3:¬ (Tag.obj a n = .hall ∨ Tag.obj a n = .acts ∨ Tag.obj a n = .strs):=by rintro (h | h | h) <;> cases h
 rcases i with _ | _ | _ | _ | _ | _ | _ | i
 ·exact (write_lock t hp hH k.ha k.hs k.hs8 k.hw).mono wT3 fun _ _ s hh=>⟨hh,hp.step s q3⟩
 ·exact (write_begin t hp hH k.ha k.hs k.hs8 k.hc0 k.hc1).mono wT3 fun _ _ s hh=>⟨hh,hp.step s q3⟩
 ·exact (write_take t hp hH k.ha k.ht0 k.ht1).mono (fun _ h=>by rcases h with h | h | h <;> simp [wT,h]) fun _ _ s hh=>hh
 ·cases e:p.act with
  | bad=>exact absurd e hb
  | wr x=>
   have ka:=k.act
   rw [e] at hA ka
   obtain ⟨b1,b2,b3,uv,rfl,g1,g2,g3⟩:=hA
   have:=write_write_wr t hp hH k.ha k.hs k.hs8 k.hks k.hok ka.1 k.hp0 k.hp1 ka.2.1 ka.2.2 g1 g2 g3
   simpa only [wDo,e] using this
  | sw=>
   have ka:=k.act
   rw [e] at hA ka
   obtain ⟨_,b1,rfl,g1⟩:=hA
   have:=write_write_sw t hp hH k.ha k.hs k.hs8 k.hks k.hok ka g1
   simpa only [wDo,e] using this
 ·exact (write_publish t hp hH k.ha k.hs k.hs8).mono wT3 fun _ _ s hh=>⟨hh,hp.step s q3⟩
 ·exact (write_end t hp hH k.ha k.hs k.hs8 k.hc0 k.hc1).mono wT3 fun _ _ s hh=>⟨hh,hp.step s q3⟩
 ·exact (write_unlock t hp hH k.ha k.hs k.hs8 k.hl0 k.hl1).mono wT3 fun _ _ s hh=>⟨hh,hp.step s q3⟩
 exact absurd hi (by omega)
theorem steps_at:∀ i,i < 7 → [Value.func (.func 131) #[] #[],.func (.func 132) #[] #[],.func (.func 133) #[] #[],.func (.func 134) #[] #[],.func (.func 135) #[] #[],.func (.func 136) #[] #[],.func (.func 137) #[] #[]][i]? = some (.func (.func (131 + i)) #[] #[])
 | 0,_=>rfl | 1,_=>rfl | 2,_=>rfl | 3,_=>rfl | 4,_=>rfl | 5,_=>rfl | 6,_=>rfl
 | i + 7,h=>absurd h (Nat.not_lt.2 (Nat.le_add_left 7 i))
theorem wDo_all (h:HallS) (p:WProc) (i:Nat):(wDo h p i).2.at_ = p.at_ ∧ (wDo h p i).2.who = p.who ∧ (wDo h p i).2.s = p.s ∧ (wDo h p i).2.act = p.act ∧ (wDo h p i).2.placed = p.placed:=by
 rcases i with _ | _ | _ | _ | _ | _ | i
 case succ.succ.succ.zero=>
  simp only [wDo]
  cases e:p.act <;> simp [e]
 all_goals exact ⟨rfl,rfl,rfl,rfl,rfl⟩
def wP1 (p:WProc) (pos:Int):WProc:={ p with placed:=if p.at_ = 2 then pos else p.placed }
theorem wStep_do {h:HallS} {p:WProc} {pos:Int} (h1:wEnabled h p = true) (h2:nilAct p.act = false):wStep h p pos = ((wDo h (wP1 p pos) p.at_).1,{ (wDo h (wP1 p pos) p.at_).2 with at_:=p.at_ + 1 }):=by
 unfold wStep
 rw [if_neg (by simp [h1]),if_neg (by simp [h2])]
 have e:(if p.at_ = 2 then { p with placed:=pos } else p) = wP1 p pos:=by
  unfold wP1
  split <;> rfl
 simp only [e]
theorem wEnabled_lt {h:HallS} {p:WProc} (h1:wEnabled h p = true):p.at_ < 7:=by
 unfold wEnabled wDone at h1
 simp only [Bool.and_eq_true,Bool.not_eq_true', decide_eq_false_iff_not] at h1
 omega
theorem WOk.p1 {h:HallS} {p:WProc} (k:WOk h p) (pos:Int):WOk h (wP1 p pos):=⟨k.ha,k.hs,k.hs8,k.hw,k.hc0,k.hc1,k.hl0,k.hl1,k.ht0,k.ht1,k.hp0,k.hp1,k.hks,k.hok,k.act⟩
theorem wStep_same (h:HallS) (p:WProc) (pos:Int):(wStep h p pos).2.act = p.act ∧ (wStep h p pos).2.who = p.who ∧ (wStep h p pos).2.s = p.s:=by
 by_cases h1:wEnabled h p = true
 ·by_cases h2:nilAct p.act = true
  ·unfold wStep
   rw [if_neg (by simp [h1]),if_pos h2]
   exact ⟨rfl,rfl,rfl⟩
  rw [wStep_do h1 (by simpa using h2)]
  obtain ⟨_,k2,k3,k4,_⟩:=wDo_all h (wP1 p pos) p.at_
  exact ⟨k4,k2,k3⟩
 unfold wStep
 rw [if_pos (by simpa using h1)]
 exact ⟨rfl,rfl,rfl⟩
theorem write_Step0 {bp b a n:Nat} {av:Value} {p:WProc} {h:HallS} (pos:Int) (t:TW) (hp:Bk t bp (wpC p av) 198 (.obj a n)) (hA:ApR t av p.who p.s p.act) (hH:IsHall t b h) (hs:p.s < h.strs.length) (hs8:h.strs.length ≤ 8) (hk:wEnabled h p = true → nilAct p.act = false → WOk h p):Cal 80 [.pointer (some ⟨bp,0,none⟩),.pointer (some ⟨b,0,none⟩),.int .i64 pos] t (wT p a n) (fun r t' => IsHall t' b (wStep h p pos).1 ∧ Bk t' bp (wpC (wStep h p pos).2 av) 198 (.obj a n)):=by
 obtain ⟨p1,hp1⟩:∃ p1,p1 = wP1 p pos:=⟨_,rfl⟩
 have e1:p1.at_ = p.at_ ∧ p1.who = p.who ∧ p1.s = p.s ∧ p1.act = p.act:=by rw [hp1]; exact ⟨rfl,rfl,rfl,rfl⟩
 refine Cal.en Tryz.func80 rfl Tryz.ntmps80<|WC.seq<|WC.rs<|WL.m rfl<|WL.m rfl<|WL.e (Ef.call rfl en79 (write_Enabled _ hp hA hH hs hs8) (fun _ h=>h.elim)) ?_
 rintro _ t1 ⟨s1,rfl⟩
 obtain ⟨hA,hH,hp⟩:=Q3 (hA.n s1) (hH.n s1) (hp.n s1)
 refine WL.f (Fr.un_not rfl)<|WL.go ?_
 refine WC.condS rfl (fun hcond9=>?_) (fun hcond9=>?_)
 ·exact WC.ret<|WQ.tr<|WQ.ret rfl .nil (by have hen:wEnabled h p = false:=by { simpa using hcond9 }; unfold wStep; rw [if_pos hen]; exact ⟨hH,hp⟩)
 refine WC.skip<|WQ.n<|WC.seq<|WC.rs<|WL.m rfl<|WL.f (Fr.ncP rfl)<|WL.q 2 rfl fa198_2<|WL.r (Rd.ld rfl sc186 (hp.cell rfl))<|WL.f (Fr.nilFq rfl Tryz.underlying186 hA.nil)<|WL.go ?_
 refine WC.condS rfl (fun hcond14=>?_) (fun hcond14=>?_)
 ·refine WC.rs<|WL.m rfl<|WL.m rfl<|WL.m rfl<|WL.f (Fr.bd (vs:=[(0,.int .i64 1)]) (cs:=#[.int .i64 1,.slice none 0 0,.slice none 0 0,.bool false]) rfl (fun w=>by kernel_rfl))<|WL.m rfl<|WL.e (Ef.call rfl en103 (write_steps _) (fun _ h=>h.elim)) ?_
  rintro _ t2 ⟨s2,b20,rfl,m20,h20⟩
  obtain ⟨hH,hp⟩:=Q2 (hH.n s2) (hp.n s2)
  refine WL.f (Fr.ln rfl Tryz.underlying218)<|WL.f (Fr.ncP rfl)<|WL.q 8 rfl fa198_6<|WL.e0 (Ef.T [.int .i64 1,.slice none 0 0,.slice none 0 0,.bool false] rfl rfl hp sz59 (.inr (.inr (.inr (.inr (.inr rfl)))))) ?_
  rintro _ t3 ⟨u3,s3,hp'⟩
  have hp:Bk t3 bp [.int .i64 p.who,.int .i64 (p.s:Int),av,.int .i64 (p.at_:Int),.int .u64 p.time.now,.int .u64 p.time.seq,.bool p.time.closed,.int .i64 p.placed,.int .i64 1,.slice none 0 0,.slice none 0 0,.bool false] _ _:=hp'
  clear hp'
  have hH:=hH.n s3
  refine WL.f (Fr.ncP rfl)<|WL.q 7 rfl fa198_5<|WL.e0 (Ef.T [.int .i64 pos] rfl rfl hp sz3 (.inr (.inr (.inr (.inr (.inr rfl)))))) ?_
  rintro _ t4 ⟨u4,s4,hp'⟩
  have hp:Bk t4 bp [.int .i64 p.who,.int .i64 (p.s:Int),av,.int .i64 (p.at_:Int),.int .u64 p.time.now,.int .u64 p.time.seq,.bool p.time.closed,.int .i64 pos,.int .i64 1,.slice none 0 0,.slice none 0 0,.bool false] _ _:=hp'
  clear hp'
  have hH:=hH.n s4
  refine WL.f (Fr.ncP rfl)<|WL.q 3 rfl fa198_3<|WL.e0 (Ef.T [.int .i64 (7:Nat)] rfl rfl hp sz3 (.inr (.inr (.inr (.inr (.inr rfl)))))) ?_
  rintro _ t5 ⟨u5,s5,hp'⟩
  have hp:Bk t5 bp [.int .i64 p.who,.int .i64 (p.s:Int),av,.int .i64 (7:Nat),.int .u64 p.time.now,.int .u64 p.time.seq,.bool p.time.closed,.int .i64 pos,.int .i64 1,.slice none 0 0,.slice none 0 0,.bool false] _ _:=hp'
  clear hp'
  have hH:=hH.n s5
  exact WL.go<|WC.ret<|WQ.tr<|WQ.ret rfl .nil (by unfold wStep; rw [if_neg (by simpa using hcond9),if_pos hcond14]; exact ⟨hH,hp⟩)
 refine WC.skip<|WQ.n ?_
 refine WC.seqJ (σ:=Unit) (fun _ t' => Bk t' bp (wpC p1 av) 198 (.obj a n) ∧ ApR t' av p.who p.s p.act ∧ IsHall t' b h ∧ True) (fun _=>[(0,.pointer (some ⟨bp,0,none⟩)),(1,.pointer (some ⟨b,0,none⟩))]) ?_ ?_
 ·refine WC.rs<|WL.m rfl<|WL.f (Fr.ncP rfl)<|WL.q 3 rfl fa198_3<|WL.r (Rd.ld rfl sc3 (hp.cell rfl))<|WL.f (Fr.bo rfl rfl BO.eq)<|WL.go ?_
  refine WC.condS rfl (fun hcond32=>?_) (fun hcond32=>?_)
  ·refine WC.rg<|WL.m rfl<|WL.m rfl<|WL.f (Fr.ncP rfl)<|WL.q 7 rfl fa198_5<|WL.e0 (Ef.T [.int .i64 pos] rfl rfl hp sz3 (.inr (.inr (.inr (.inr (.inr rfl)))))) ?_
   rintro _ t6 ⟨u6,s6,hp'⟩
   have hp:Bk t6 bp [.int .i64 p.who,.int .i64 (p.s:Int),av,.int .i64 (p.at_:Int),.int .u64 p.time.now,.int .u64 p.time.seq,.bool p.time.closed,.int .i64 pos,.int .i64 p.err,.slice none 0 0,.slice none 0 0,.bool false] _ _:=hp'
   clear hp'
   obtain ⟨hA,hH⟩:=Q2 (hA.n s6) (hH.n s6)
   refine WL.nil ?_
   have hp:Bk t6 bp (wpC p1 av) 198 (.obj a n):=by rw [hp1]; unfold wP1; rw [if_pos (by have:=dcT hcond32; omega)]; exact hp
   exact WQ.join () ⟨rfl,rfl,trivial⟩ ⟨hp,hA,hH,trivial⟩
  refine WC.skip ?_
  have hp:Bk t1 bp (wpC p1 av) 198 (.obj a n):=by rw [hp1]; unfold wP1; rw [if_neg (by have:=dcF hcond32; omega)]; exact hp
  exact WQ.join () ⟨rfl,rfl,trivial⟩ ⟨hp,hA,hH,trivial⟩
 rintro _ t7 ⟨hp,hA,hH,_⟩
 refine WC.drs (fun w=>At w bp 3 [.int .i64 (p1.at_:Int)] ∧ True) .body (⟨hp.at rfl,trivial⟩) ?_
 obtain ⟨hA,hH,hp⟩:=Q3 (hA.n (TW.drew_step _)) (hH.n (TW.drew_step _)) (hp.n (TW.drew_step _))
 refine DL.m 1 rfl rfl<|DL.fx 2 rfl (Fr.ncP rfl)<|DL.fx 3 rfl (Fr.q 3 rfl fa198_3)<|DL.m 7 rfl rfl<|DL.m 8 rfl rfl<|DL.hx 4 rfl (fun w hw=>Rd.ld rfl sc3 (hw.1.one rfl))<|DL.ex 0 rfl (Ef.call rfl en103 (write_steps _) (fun _ h=>h.elim)) (fun _ _ ⟨s,_⟩=>⟨hp.a s,trivial⟩) ?_
 rintro _ t8 ⟨s8,b37,rfl,m37,h37⟩
 obtain ⟨hA,hH,hp⟩:=Q3 (hA.n s8) (hH.n s8) (hp.n s8)
 have hen:wEnabled h p = true:=by simpa using hcond9
 have h7:p1.at_ < 7:=by rw [e1.1]; exact wEnabled_lt hen
 refine DL.fx 5 rfl (Fr.ix rfl rfl sl218 (by omega) (by omega) (o' := p1.at_) (by simp))<|DL.rx 6 rfl (Rd.ld rfl sc220 (h37.cell (steps_at _ h7)))<|DL.ex 9 rfl (Ef.callv (cap:=[]) rfl rfl (ent_do _ h7) (write_do _ hp (by rw [e1.2.1,e1.2.2.1,e1.2.2.2]; exact hA) (by rw [e1.2.2.2]; intro hb; rw [hb] at hcond14; cases hcond14) hH (by rw [hp1]; exact (hk hen hcond14).p1 pos) _ h7) (fun z hz=>by unfold wT at hz ⊢; rw [e1.2.2.1] at hz; exact hz)) (fun _ _ ⟨_,_,hb⟩=>⟨by have hb2:=hb.at (o:=3) (vs:=[.int .i64 ((wDo h p1 p1.at_).2.at_:Int)]) rfl; rw [(wDo_all h p1 p1.at_).1] at hb2; exact hb2,trivial⟩) ?_
 rintro _ t9 ⟨s9,hH,hp⟩
 obtain ⟨q,hq⟩:∃ q,q = (wDo h p1 p1.at_).2:=⟨_,rfl⟩
 rw [← hq] at hp
 refine DL.D<|WQ.n<|WC.rg<|WL.m rfl<|WL.f (Fr.ncP rfl)<|WL.q 3 rfl fa198_3<|WL.r (Rd.ld rfl sc3 (hp.cell rfl))<|WL.f (Fr.bo rfl rfl (BO.add (by have:=(wDo_all h p1 p1.at_).1; rw [← hq] at this; omega) (by have:=(wDo_all h p1 p1.at_).1; rw [← hq] at this; omega)))<|WL.f (Fr.ncP rfl)<|WL.q 3 rfl fa198_3 ?_
 refine WL.e0 (Ef.T [.int .i64 ((q.at_:Int) + 1)] rfl rfl hp sz3 (.inr (.inr (.inr (.inr (.inr rfl)))))) ?_
 rintro _ t10 ⟨u10,s10,hp'⟩
 have hp:Bk t10 bp [.int .i64 q.who,.int .i64 (q.s:Int),av,.int .i64 ((q.at_:Int) + 1),.int .u64 q.time.now,.int .u64 q.time.seq,.bool q.time.closed,.int .i64 q.placed,.int .i64 q.err,.slice none 0 0,.slice none 0 0,.bool false] _ _:=hp'
 clear hp'
 have hH:=hH.n s10
 exact WL.nil<|WQ.end_ rfl .nil (by rw [wStep_do hen hcond14,← hp1,← e1.1,← hq]; exact ⟨hH,by have e5:q.at_ = p1.at_:=by { rw [hq]; exact (wDo_all _ _ _).1 }; rw [← e5]; exact hp⟩)
theorem write_Step {bp b a n:Nat} {p:WProc} {h:HallS} (pos:Int) (t:TW) (hW:IsW t (.obj a n) bp p) (hH:IsHall t b h) (hs:p.s < h.strs.length) (hs8:h.strs.length ≤ 8) (hk:wEnabled h p = true → nilAct p.act = false → WOk h p):Cal 80 [.pointer (some ⟨bp,0,none⟩),.pointer (some ⟨b,0,none⟩),.int .i64 pos] t (wT p a n) (fun r t' => IsHall t' b (wStep h p pos).1 ∧ IsW t' (.obj a n) bp (wStep h p pos).2):=by
 obtain ⟨av,hp,hA⟩:=hW
 refine (write_Step0 pos t hp hA hH hs hs8 hk).post fun _ t' s hh=>⟨hh.1,av,hh.2,?_⟩
 obtain ⟨k1,k2,k3⟩:=wStep_same h p pos
 rw [k1,k2,k3]
 exact hA.step s (by rintro (h | h | h | ⟨_,h | h⟩ | h) <;> cases h)
abbrev swC (s:Nat) (r:Int) (v:Value):List Value:=[.int .i64 (s:Int),.int .i64 r,v]
def IsSw (t:TW) (b:Nat) (p:SwProc):Prop:=∃ b1,Bk t b (swC p.stripe p.rounds (.pointer (some ⟨b1,0,none⟩))) 160 (.sweep 0) ∧ IsW t (.obj 8 0) b1 p.now
theorem IsW.step {t t' : TW} {g:Tag} {b:Nat} {p:WProc} {T:Tag → Prop} (h:IsW t g b p) (s:Step T t t') (hg:¬ T g) (h0:¬ T .fz):IsW t' g b p:=by
 obtain ⟨av,h1,h2⟩:=h
 exact ⟨av,h1.step s hg,h2.step s h0⟩
theorem IsW.n {t t' : TW} {g:Tag} {b:Nat} {p:WProc} {T:Tag → Prop} (h:IsW t g b p) (s:Step T t t') (hg:¬ T g:=by first | exact id | nofun | (rintro (h | h) <;> cases h) | (rintro (h | h | h) <;> cases h)) (h0:¬ T .fz:=by first | exact id | nofun | (rintro (h | h) <;> cases h) | (rintro (h | h | h) <;> cases h)):IsW t' g b p:=h.step s hg h0
theorem IsSw.step {t t' : TW} {b:Nat} {p:SwProc} {T:Tag → Prop} (h:IsSw t b p) (s:Step T t t') (hg:¬ T (.sweep 0)) (ho:¬ T (.obj 8 0)) (h0:¬ T .fz):IsSw t' b p:=by
 obtain ⟨b1,h1,h2⟩:=h
 exact ⟨b1,h1.step s hg,h2.step s ho h0⟩
theorem IsSw.n {t t' : TW} {b:Nat} {p:SwProc} {T:Tag → Prop} (h:IsSw t b p) (s:Step T t t') (hg:¬ T (.sweep 0):=by first | exact id | nofun | (rintro (h | h) <;> cases h) | (rintro (h | h | h) <;> cases h)) (ho:¬ T (.obj 8 0):=by first | exact id | nofun | (rintro (h | h) <;> cases h) | (rintro (h | h | h) <;> cases h)) (h0:¬ T .fz:=by first | exact id | nofun | (rintro (h | h) <;> cases h) | (rintro (h | h | h) <;> cases h)):IsSw t' b p:=h.step s hg ho h0
theorem sweep_begin {bs:Nat} {x:Value} {s:Nat} {r:Int} (t:TW) (hb:Bk t bs (swC s r x) 160 (.sweep 0)):Cal 61 [.pointer (some ⟨bs,0,none⟩)] t (fun z=>z = .sweep 0) (fun _ t' => ∃ b1,Bk t' bs (swC s r (.pointer (some ⟨b1,0,none⟩))) 160 (.sweep 0) ∧ IsW t' (.obj 8 0) b1 (swBegin s)):=by
 refine Cal.en Tryz.func61 rfl Tryz.ntmps61<|WC.rs<|WL.m rfl<|WL.f (Fr.ncP rfl)<|WL.q 0 rfl fa160_0<|WL.r (Rd.ld rfl sc3 (hb.cell rfl))<|WL.e (Ef.al (.loc 2) zr3) ?_
 rintro _ t1 ⟨b2,rfl,s1,hb2,nb2,mb2⟩
 have hb:=hb.n s1
 refine WL.e0 (Ef.T [.int .i64 (s:Int)] rfl rfl hb2 sz3 (.inl nb2)) ?_
 rintro _ t2 ⟨u2,s2,hb2'⟩
 have hb2:Bk t2 b2 [.int .i64 (s:Int)] _ _:=hb2'
 clear hb2'
 have hb:=hb.n s2
 refine WL.go<|WC.rg<|WL.m rfl<|WL.r (Rd.ld rfl sc3 (hb2.cell rfl))<|WL.f (Fr.mf rfl)<|WL.e (Ef.call rfl en73 (write_Section (.obj 8 0) 8 s (.func 74) _ _ _) (fun _ h=>h.elim)) ?_
 rintro _ t3 ⟨s3,b10,rfl,n10,h10⟩
 obtain ⟨hb,hb2⟩:=Q2 (hb.n s3) (hb2.n s3)
 refine WL.f (Fr.ncP rfl)<|WL.q 2 rfl fa160_2<|WL.e0 (Ef.T [.pointer (some ⟨b10,0,none⟩)] rfl rfl hb sz158 (.inr rfl)) ?_
 rintro _ t4 ⟨u4,s4,hb'⟩
 have hb:Bk t4 bs [.int .i64 (s:Int),.int .i64 r,.pointer (some ⟨b10,0,none⟩)] _ _:=hb'
 clear hb'
 obtain ⟨h10,hb2⟩:=Q2 (h10.n s4) (hb2.n s4)
 refine WL.nil ?_
 have st7:Step (fun q=>q = .loc 2) t4 (t4.tagv (.slice (some ⟨b2,0,none⟩) 0 0) .fz):=TW.tagv_step _ (fun b hb=>by simp [Value.ownBlock] at hb; subst hb; exact hb2.2)
 have h2:=hb2.frz
 have h7:=h10.step st7 nofun
 have hb:=hb.n st7
 exact WQ.tag (.slice (some ⟨b2,0,none⟩) 0 0) .fz (.inl fun b hb=>by simp [Value.ownBlock] at hb; subst hb; exact nb2)<|WQ.end_ rfl .nil (⟨b10,hb,_,h7,rfl,b2,rfl,h2⟩)
theorem sweep_New (hv:Value) (t:TW):Cal 42 [hv] t (fun z=>z = .sweep 0) (fun r t' => ∃ bs,r = .pointer (some ⟨bs,0,none⟩) ∧ t.w.heap.size ≤ bs ∧ IsSw t' bs ⟨0,0,swBegin 0⟩):=by
 refine Cal.en Tryz.func42 rfl Tryz.ntmps42<|WC.rs<|WL.a rfl<|WL.go<|WC.rs<|WL.f (Fr.bd (vs:=[]) (cs:=#[.int .i64 0,.int .i64 0,.pointer none]) rfl (fun w=>by kernel_rfl))<|WL.e (Ef.bx (.sweep 0) (cs:=[.int .i64 0,.int .i64 0,.pointer none]) rfl) ?_
 rintro _ t1 ⟨b5,rfl,s1,hb5,nb5,mb5⟩
 refine WL.a rfl<|WL.go<|WC.rs<|WL.m rfl<|WL.e (Ef.call rfl en61 (sweep_begin (s:=0) _ hb5) (fun _ h=>h)) ?_
 rintro _ t2 ⟨s2,b1,hb5,hw⟩
 exact WL.go<|WC.rs<|WL.m rfl<|WL.a rfl<|WL.go<|WC.ret<|WQ.ret rfl (.tmp rfl .nil) (⟨_,rfl,mb5,b1,hb5,hw⟩)
theorem sweep_Enabled {bs b:Nat} {p:SwProc} {h:HallS} (t:TW) (hS:IsSw t bs p) (hH:IsHall t b h) (hs:p.now.s < h.strs.length) (hs8:h.strs.length ≤ 8):Cal 64 [.pointer (some ⟨bs,0,none⟩),.pointer (some ⟨b,0,none⟩)] t No (fun r t' => r = .bool (wEnabled h p.now)):=by
 obtain ⟨b1,hb,av,hp,hA⟩:=hS
 refine Cal.en Tryz.func64 rfl Tryz.ntmps64<|WC.rs<|WL.a rfl<|WL.go<|WC.rs<|WL.m rfl<|WL.f (Fr.ncP rfl)<|WL.q 2 rfl fa160_2<|WL.r (Rd.ld rfl sc158 (hb.cell rfl))<|WL.m rfl ?_
 refine WL.e (Ef.call rfl en79 (write_Enabled _ hp hA hH hs hs8) (fun _ h=>h.elim)) ?_
 rintro _ t1 ⟨s1,rfl⟩
 exact WL.a rfl<|WL.go<|WC.ret<|WQ.ret rfl (.tmp rfl .nil) (rfl)
theorem sweep_Stripe {bs:Nat} {p:SwProc} (t:TW) (hS:IsSw t bs p):Cal 66 [.pointer (some ⟨bs,0,none⟩)] t No (fun r t' => r = .int .i64 (p.stripe:Int)):=by
 obtain ⟨b1,hb,hW⟩:=hS
 refine Cal.en Tryz.func66 rfl Tryz.ntmps66<|WC.rs<|WL.a rfl<|WL.go<|WC.rs<|WL.m rfl<|WL.f (Fr.ncP rfl)<|WL.q 0 rfl fa160_0<|WL.r (Rd.ld rfl sc3 (hb.cell rfl))<|WL.a rfl ?_
 exact WL.go<|WC.ret<|WQ.ret rfl (.tmp rfl .nil) (rfl)
theorem sweep_Placed {bs:Nat} {p:SwProc} (t:TW) (hS:IsSw t bs p):Cal 68 [.pointer (some ⟨bs,0,none⟩)] t No (fun r t' => r = .int .i64 p.now.placed):=by
 obtain ⟨b1,hb,av,hp,hA⟩:=hS
 refine Cal.en Tryz.func68 rfl Tryz.ntmps68<|WC.rs<|WL.a rfl<|WL.go<|WC.rs<|WL.m rfl<|WL.f (Fr.ncP rfl)<|WL.q 2 rfl fa160_2<|WL.r (Rd.ld rfl sc158 (hb.cell rfl))<|WL.e (Ef.call rfl en83 (write_Placed _ hp) (fun _ h=>h.elim)) ?_
 rintro _ t1 ⟨s1,rfl⟩
 exact WL.a rfl<|WL.go<|WC.ret<|WQ.ret rfl (.tmp rfl .nil) (rfl)
theorem sweep_Step {bs b:Nat} {p:SwProc} {h:HallS} (pos:Int) (t:TW) (hS:IsSw t bs p) (hH:IsHall t b h) (hs:p.now.s < h.strs.length) (hs8:h.strs.length ≤ 8) (hk:wEnabled h p.now = true → nilAct p.now.act = false → WOk h p.now) (hst:p.stripe ≤ 1000) (hr0:0 ≤ p.rounds) (hr1:p.rounds ≤ 1000000):Cal 67 [.pointer (some ⟨bs,0,none⟩),.pointer (some ⟨b,0,none⟩),.int .i64 pos] t (fun z=>z = .sweep 0 ∨ z = .hall ∨ z = .acts ∨ z = .strs ∨ (∃ k,z = .ring p.now.s k ∨ z = .rrow p.now.s k) ∨ z = .obj 8 0) (fun r t' => r = .bool (swStep h p pos).2.2 ∧ IsHall t' b (swStep h p pos).1 ∧ IsSw t' bs (swStep h p pos).2.1):=by
 obtain ⟨b1,hb,hW⟩:=hS
 obtain ⟨h2,eh⟩:∃ h2,h2 = (wStep h p.now pos).1:=⟨_,rfl⟩
 obtain ⟨w2,ew⟩:∃ w2,w2 = (wStep h p.now pos).2:=⟨_,rfl⟩
 obtain ⟨ns,ens⟩:∃ ns,ns = swNext p h2.cfg.stripes:=⟨_,rfl⟩
 obtain ⟨nr,enr⟩:∃ nr,nr = swRound p h2.cfg.stripes:=⟨_,rfl⟩
 refine Cal.en Tryz.func67 rfl Tryz.ntmps67<|WC.rs<|WL.a rfl<|WL.go<|WC.rs<|WL.m rfl<|WL.f (Fr.ncP rfl)<|WL.q 2 rfl fa160_2<|WL.r (Rd.ld rfl sc158 (hb.cell rfl))<|WL.m rfl ?_
 refine WL.m rfl<|WL.e (Ef.call rfl en80 (write_Step pos _ hW hH hs hs8 hk) (fun z hz=>by rcases hz with h | h | h | h | h <;> simp [h])) ?_
 rintro _ t1 ⟨s1,hH,hW⟩
 have hb:=hb.step s1 (by rintro (h | h | h | ⟨_,h | h⟩ | h) <;> cases h)
 rw [← eh] at hH
 rw [← ew] at hW
 refine WL.go<|WC.seq<|WC.rs<|WL.m rfl<|WL.f (Fr.ncP rfl)<|WL.q 2 rfl fa160_2<|WL.r (Rd.ld rfl sc158 (hb.cell rfl)) ?_
 obtain ⟨av,hp,hA⟩:=hW
 refine WL.e (Ef.call rfl en81 (write_Done _ hp) (fun _ h=>h.elim)) ?_
 rintro _ t2 ⟨s2,rfl⟩
 obtain ⟨hH,hb⟩:=Q2 (hH.n s2) (hb.n s2)
 have hW:IsW _ (.obj 8 0) b1 w2:=⟨av,hp.step s2 id,hA.step s2 id⟩
 refine WL.f (Fr.un_not rfl)<|WL.go ?_
 refine WC.condS rfl (fun hcond19=>?_) (fun hcond19=>?_)
 ·exact WC.rs<|WL.a rfl<|WL.go<|WC.ret<|WQ.tr<|WQ.ret rfl (.tmp rfl .nil) (by have e:wDone w2 = false:=by { unfold wDone; simp at hcond19; simp; omega }; have e2:swStep h p pos = (h2,{ p with now:=w2 },false):=by { unfold swStep; simp only [← eh,← ew]; rw [if_neg (by simp [e])] }; rw [e2]; exact ⟨rfl,hH,b1,hb,hW⟩)
 refine WC.skip<|WQ.n ?_
 refine WC.seqJ (σ:=Unit) (fun _ t' => Bk t' bs [.int .i64 (ns:Int),.int .i64 nr,.pointer (some ⟨b1,0,none⟩)] 160 (.sweep 0) ∧ IsHall t' b h2 ∧ IsW t' (.obj 8 0) b1 w2 ∧ True) (fun _=>[(0,.pointer (some ⟨bs,0,none⟩)),(6,.bool false)]) ?_ ?_
 ·refine WC.rs<|WL.m rfl<|WL.f (Fr.ncP rfl)<|WL.q 0 rfl fa160_0<|WL.r (Rd.ld rfl sc3 (hb.cell rfl))<|WL.f (Fr.bo rfl rfl (BO.add (by omega) (by omega)))<|WL.f (Fr.ncP rfl)<|WL.q 0 rfl fa160_0<|WL.e0 (Ef.T [.int .i64 ((p.stripe:Int) + 1)] rfl rfl hb sz3 (.inr (.inl rfl))) ?_
  rintro _ t3 ⟨u3,s3,hb'⟩
  have hb:Bk t3 bs [.int .i64 ((p.stripe:Int) + 1),.int .i64 p.rounds,.pointer (some ⟨b1,0,none⟩)] _ _:=hb'
  clear hb'
  obtain ⟨hH,hW⟩:=Q2 (hH.n s3) (hW.n s3)
  refine WL.go<|WC.drs (fun w=>At w bs 0 [.int .i64 ((p.stripe:Int) + 1)] ∧ True) (.then_ .body) (⟨hb.at rfl,trivial⟩) ?_
  obtain ⟨hH,hW,hb⟩:=Q3 (hH.n (TW.drew_step _)) (hW.n (TW.drew_step _)) (hb.n (TW.drew_step _))
  refine DL.m 0 rfl rfl<|DL.fx 1 rfl (Fr.ncP rfl)<|DL.fx 2 rfl (Fr.q 0 rfl fa160_0)<|DL.m 4 rfl rfl<|DL.hx 3 rfl (fun w hw=>Rd.ld rfl sc3 (hw.1.one rfl))<|DL.ex 5 rfl (Ef.call rfl en82 (hall_Config _ hH) (fun _ h=>h.elim)) (fun _ _ ⟨s,_⟩=>⟨hb.a s,trivial⟩) ?_
  rintro _ t4 ⟨s4,rfl⟩
  obtain ⟨hH,hW,hb⟩:=Q3 (hH.n s4) (hW.n s4) (hb.n s4)
  refine DL.fx 6 rfl (Fr.fd1 rfl Tryz.underlying24 rfl sc3 rfl)<|DL.fx 7 rfl (Fr.bo rfl rfl BO.eq)<|DL.D<|WQ.n ?_
  refine WC.condS rfl (fun hcond34=>?_) (fun hcond34=>?_)
  ·refine WC.rs<|WL.m rfl<|WL.f (Fr.ncP rfl)<|WL.q 0 rfl fa160_0<|WL.e0 (Ef.T [.int .i64 0] rfl rfl hb sz3 (.inr (.inl rfl))) ?_
   rintro _ t5 ⟨u5,s5,hb'⟩
   have hb:Bk t5 bs [.int .i64 0,.int .i64 p.rounds,.pointer (some ⟨b1,0,none⟩)] _ _:=hb'
   clear hb'
   obtain ⟨hH,hW⟩:=Q2 (hH.n s5) (hW.n s5)
   refine WL.go<|WC.rg<|WL.m rfl<|WL.f (Fr.ncP rfl)<|WL.q 1 rfl fa160_1<|WL.r (Rd.ld rfl sc3 (hb.cell rfl))<|WL.f (Fr.bo rfl rfl (BO.add (by omega) (by omega)))<|WL.f (Fr.ncP rfl)<|WL.q 1 rfl fa160_1<|WL.e0 (Ef.T [.int .i64 (p.rounds + 1)] rfl rfl hb sz3 (.inr (.inl rfl))) ?_
   rintro _ t6 ⟨u6,s6,hb'⟩
   have hb:Bk t6 bs [.int .i64 0,.int .i64 (p.rounds + 1),.pointer (some ⟨b1,0,none⟩)] _ _:=hb'
   clear hb'
   obtain ⟨hH,hW⟩:=Q2 (hH.n s6) (hW.n s6)
   refine WL.nil ?_
   have hb:Bk t6 bs [.int .i64 (ns:Int),.int .i64 nr,.pointer (some ⟨b1,0,none⟩)] 160 (.sweep 0):=by have e:=dcT hcond34; rw [ens,enr]; unfold swNext swRound; rw [if_pos e,if_pos e]; exact hb
   exact WQ.join () ⟨rfl,rfl,trivial⟩ ⟨hb,hH,hW,trivial⟩
  refine WC.skip ?_
  have hb:Bk t4 bs [.int .i64 (ns:Int),.int .i64 nr,.pointer (some ⟨b1,0,none⟩)] 160 (.sweep 0):=by have e:=dcF hcond34; rw [ens,enr]; unfold swNext swRound; rw [if_neg e,if_neg e]; exact hb
  exact WQ.join () ⟨rfl,rfl,trivial⟩ ⟨hb,hH,hW,trivial⟩
 rintro _ t7 ⟨hb,hH,hW,_⟩
 refine WC.rs<|WL.m rfl<|WL.e (Ef.call rfl en61 (sweep_begin _ hb) (fun _ h=>.inl h)) ?_
 rintro _ t8 ⟨s8,b2,hb,hW⟩
 have hH:=hH.n s8
 exact WL.go<|WC.rs<|WL.a rfl<|WL.go<|WC.ret<|WQ.ret rfl (.tmp rfl .nil) (by have e:wDone w2 = true:=by { unfold wDone; simp at hcond19; simp; omega }; have e2:swStep h p pos = (h2,⟨ns,nr,swBegin ns⟩,true):=by { unfold swStep; simp only [← eh,← ew]; rw [if_pos e,ens,enr] }; rw [e2]; exact ⟨rfl,hH,b2,hb,hW⟩)
def mvT:Mv Unit:=⟨fun _ _ v=>v = .bool true,fun _ _ h=>h⟩
abbrev encS:ByteArray → Value:=fun s=>.string s
def IsMine (t:TW) (i b:Nat) (m:MineS):Prop:=∃ b1,Bk t b [.map (some b1)] 163 .fz ∧ Mp t b1 (.mine i) encS mvT m
theorem IsMine.step {t t' : TW} {i b:Nat} {m:MineS} {T:Tag → Prop} (h:IsMine t i b m) (s:Step T t t') (hg:¬ T (.mine i)) (h0:¬ T .fz):IsMine t' i b m:=by
 obtain ⟨b1,h1,h2⟩:=h
 exact ⟨b1,h1.step s h0,h2.step s hg h0⟩
theorem IsMine.n {t t' : TW} {i b:Nat} {m:MineS} {T:Tag → Prop} (h:IsMine t i b m) (s:Step T t t') (hg:¬ T (.mine i):=by first | exact id | nofun | (rintro (h | h) <;> cases h) | (rintro (h | h | h) <;> cases h)) (h0:¬ T .fz:=by first | exact id | nofun | (rintro (h | h) <;> cases h) | (rintro (h | h | h) <;> cases h)):IsMine t' i b m:=h.step s hg h0
theorem kyS:KyT 9 encS .string:=ky_str Tryz.underlying9
theorem Mp.has {t:TW} {b:Nat} {g:Tag} {m:MineS} (h:Mp t b g encS mvT m) (u:ByteArray):(Instr.lookup 161 (.map (some b)) (.string u) false).run P t.w = .ok (.bool (mineHas m u)) t.w:=by
 obtain ⟨v,h1,h2⟩:=h.look kyS Tryz.underlying161 (Tryz.zeroValue4 t.w) u
 have e:v = .bool (mineHas m u):=by
  unfold mineHas
  cases hg:gget m u with
  | none=>rw [hg] at h2; exact h2
  | some x=>rw [hg] at h2; exact h2
 rw [e] at h1
 exact h1
abbrev hC (p:HProc) (av ev:Value):List Value:=[.int .i64 p.placed,av,.int .i64 (p.at_:Int)] ++ timeC p.time ++ [.int .i64 p.err,.slice none 0 0,ev,.bool p.lost]
theorem heed_NewMine (i:Nat) (t:TW):Cal 43 [] t No (fun r t' => ∃ b,r = .pointer (some ⟨b,0,none⟩) ∧ t.w.heap.size ≤ b ∧ IsMine t' i b []):=by
 refine Cal.en Tryz.func43 rfl Tryz.ntmps43<|WC.rs<|WL.a rfl<|WL.go<|WC.rs<|WL.e (Ef.mm (.mine i) encS mvT) ?_
 rintro _ t1 ⟨b1,rfl,s1,hm,n1,m1⟩
 refine WL.f (Fr.bd (vs:=[(0,.map (some b1))]) (cs:=#[.map (some b1)]) rfl (fun w=>by kernel_rfl))<|WL.e (Ef.bx (.fz) (cs:=[.map (some b1)]) rfl) ?_
 rintro _ t2 ⟨b3,rfl,s2,hb3,nb3,mb3⟩
 have hm:=hm.n s2
 exact WL.a rfl<|WL.go<|WC.ret<|WQ.ret rfl (.tmp rfl .nil) (⟨_,rfl,nb3,b1,hb3,hm⟩)
theorem heed_Has {i mb:Nat} {m:MineS} (u:ByteArray) (t:TW) (hM:IsMine t i mb m):Cal 125 [.pointer (some ⟨mb,0,none⟩),.string u] t No (fun r t' => r = .bool (mineHas m u)):=by
 obtain ⟨b1,hm0,hm⟩:=hM
 refine Cal.en Tryz.func125 rfl Tryz.ntmps125<|WC.rs<|WL.a rfl<|WL.go<|WC.rs<|WL.m rfl<|WL.f (Fr.ncP rfl)<|WL.q 0 rfl fa163_0<|WL.r (Rd.ld rfl sc161 (hm0.cell rfl))<|WL.m rfl ?_
 exact WL.r (Rd.lk rfl rfl (hm.has u))<|WL.a rfl<|WL.go<|WC.ret<|WQ.ret rfl (.tmp rfl .nil) (rfl)
theorem heed_Count {i mb:Nat} {m:MineS} (t:TW) (hM:IsMine t i mb m):Cal 126 [.pointer (some ⟨mb,0,none⟩)] t No (fun r t' => r = .int .i64 (m.length:Int)):=by
 obtain ⟨b1,hm0,hm⟩:=hM
 refine Cal.en Tryz.func126 rfl Tryz.ntmps126<|WC.rs<|WL.a rfl<|WL.go<|WC.rs<|WL.m rfl<|WL.f (Fr.ncP rfl)<|WL.q 0 rfl fa163_0<|WL.r (Rd.ld rfl sc161 (hm0.cell rfl))<|WL.r (Rd.lnm rfl (hm.len_ Tryz.underlying161 _)) ?_
 exact WL.a rfl<|WL.go<|WC.ret<|WQ.ret rfl (.tmp rfl .nil) (rfl)
theorem heed_set {i mb:Nat} {m:MineS} (u:ByteArray) (on:Bool) (t:TW) (hM:IsMine t i mb m):Cal 128 [.pointer (some ⟨mb,0,none⟩),.string u,.bool on] t (fun z=>z = .mine i) (fun r t' => IsMine t' i mb (mineSet m u on)):=by
 obtain ⟨b1,hm0,hm⟩:=hM
 refine Cal.en Tryz.func128 rfl Tryz.ntmps128<|WC.rs<|WL.m rfl<|WL.go ?_
 refine WC.condS rfl (fun hcond6=>?_) (fun hcond6=>?_)
 ·refine WC.rg<|WL.m rfl<|WL.f (Fr.ncP rfl)<|WL.q 0 rfl fa163_0<|WL.r (Rd.ld rfl sc161 (hm0.cell rfl))<|WL.m rfl<|WL.e0 (Ef.mu (x1:=()) rfl rfl rfl Tryz.underlying161 kyS hm rfl nofun (.inr rfl)) ?_
  rintro _ t1 ⟨s1,hm2⟩
  have hm0:=hm0.n s1
  exact WL.nil<|WQ.end_ rfl .nil (by unfold mineSet; rw [if_pos hcond6]; exact ⟨b1,hm0,hm2⟩)
 refine WC.rg<|WL.m rfl<|WL.f (Fr.ncP rfl)<|WL.q 0 rfl fa163_0<|WL.r (Rd.ld rfl sc161 (hm0.cell rfl))<|WL.m rfl<|WL.e0 (Ef.md rfl rfl Tryz.underlying161 kyS hm nofun (.inr rfl)) ?_
 rintro _ t2 ⟨s2,hm2⟩
 have hm0:=hm0.n s2
 exact WL.nil<|WQ.end_ rfl .nil (by unfold mineSet; rw [if_neg (by simp [hcond6])]; exact ⟨b1,hm0,hm2⟩)
theorem heed_bad {bp pp a n:Nat} {av ev:Value} {p:HProc} (hv:Value) (t:TW) (gp:Bk t bp [.pointer (some ⟨pp,0,none⟩)] 190 .fz) (hp:Bk t pp (hC p av ev) 215 (.obj a n)):Cal 96 [hv,.pointer (some ⟨bp,0,none⟩)] t (fun z=>z = .obj a n) (fun r t' => r = .bool true ∧ Bk t' pp (hC { p with err:=1 } av ev) 215 (.obj a n)):=by
 refine Cal.en Tryz.func96 rfl Tryz.ntmps96<|WC.rs<|WL.a rfl<|WL.go<|WC.rs<|WL.r (Rd.ld rfl sc190 (gp.cell rfl))<|WL.f (Fr.ncP rfl)<|WL.q 6 rfl fa215_4<|WL.q 6 rfl fa59_0<|WL.e0 (Ef.T [.int .i64 1] rfl rfl hp sz32 (.inr rfl)) ?_
 rintro _ t1 ⟨u1,s1,hp'⟩
 have hp:Bk t1 pp [.int .i64 p.placed,av,.int .i64 (p.at_:Int),.int .u64 p.time.now,.int .u64 p.time.seq,.bool p.time.closed,.int .i64 1,.slice none 0 0,ev,.bool p.lost] _ _:=hp'
 clear hp'
 exact WL.go<|WC.rs<|WL.a rfl<|WL.go<|WC.ret<|WQ.ret rfl (.tmp rfl .nil) (⟨rfl,hp⟩)
theorem heed_shut {b bw bp pp a n who:Nat} {av ev:Value} {p:HProc} {h:HallS} (t:TW) (gw:Bk t bw [.int .i64 (who:Int)] 3 .fz) (gp:Bk t bp [.pointer (some ⟨pp,0,none⟩)] 190 .fz) (hp:Bk t pp (hC p av ev) 215 (.obj a n)) (hH:IsHall t b h) (ha:h.acts.length ≤ 899000):Cal 98 [.pointer (some ⟨b,0,none⟩),.pointer (some ⟨bw,0,none⟩),.pointer (some ⟨bp,0,none⟩)] t (fun z=>z = .hall ∨ z = .acts ∨ z = .obj a n) (fun r t' => r = .bool true ∧ IsHall t' b (hShut h who) ∧ Bk t' pp (hC { p with err:=if h.time.closed = true then 5 else p.err } av ev) 215 (.obj a n)):=by
 refine Cal.en Tryz.func98 rfl Tryz.ntmps98<|WC.rs<|WL.a rfl<|WL.go<|WC.seq<|WC.rs<|WL.m rfl<|WL.r (Rd.ld rfl sc3 (gw.cell rfl))<|WL.e (Ef.call rfl en99 (hall_Shut who _ hH (Nat.le_trans ha (by decide))) (fun _ h=>h.elim .inl (fun h=>.inr (.inl h)))) ?_
 rintro _ t1 ⟨s1,rfl,hH⟩
 obtain ⟨gp,hp⟩:=Q2 (gp.n s1) (hp.n s1)
 refine WL.f (Fr.un_not rfl)<|WL.go ?_
 refine WC.condS rfl (fun hcond8=>?_) (fun hcond8=>?_)
 ·refine WC.rg<|WL.r (Rd.ld rfl sc190 (gp.cell rfl))<|WL.f (Fr.ncP rfl)<|WL.q 6 rfl fa215_4<|WL.q 6 rfl fa59_0<|WL.e0 (Ef.T [.int .i64 5] rfl rfl hp sz32 (.inr (.inr (.inr rfl)))) ?_
  rintro _ t2 ⟨u2,s2,hp'⟩
  have hp:Bk t2 pp [.int .i64 p.placed,av,.int .i64 (p.at_:Int),.int .u64 p.time.now,.int .u64 p.time.seq,.bool p.time.closed,.int .i64 5,.slice none 0 0,ev,.bool p.lost] _ _:=hp'
  clear hp'
  have hH:=hH.n s2
  exact WL.nil<|WQ.n<|WC.rs<|WL.a rfl<|WL.go<|WC.ret<|WQ.ret rfl (.tmp rfl .nil) (⟨rfl,hH,by rw [if_pos (by simpa using hcond8)]; exact hp⟩)
 exact WC.skip<|WQ.n<|WC.rs<|WL.a rfl<|WL.go<|WC.ret<|WQ.ret rfl (.tmp rfl .nil) (⟨rfl,hH,by rw [if_neg (by simpa using hcond8)]; exact hp⟩)
theorem heed_lock {b bw bs who s:Nat} {h:HallS} (t:TW) (gw:Bk t bw [.int .i64 (who:Int)] 3 .fz) (gs:Bk t bs [.int .i64 (s:Int)] 3 .fz) (hH:IsHall t b h) (ha:h.acts.length ≤ 899000) (hs:s < h.strs.length) (hs8:h.strs.length ≤ 8) (hw:who ≤ 1000):Cal 153 [.pointer (some ⟨b,0,none⟩),.pointer (some ⟨bw,0,none⟩),.pointer (some ⟨bs,0,none⟩)] t (fun z=>z = .hall ∨ z = .acts ∨ z = .strs) (fun r t' => r = .bool false ∧ IsHall t' b (hLock h who s).1):=by
 refine Cal.en Tryz.func153 rfl Tryz.ntmps153<|WC.rs<|WL.a rfl<|WL.go<|WC.rs<|WL.m rfl<|WL.r (Rd.ld rfl sc3 (gw.cell rfl))<|WL.r (Rd.ld rfl sc3 (gs.cell rfl))<|WL.e (Ef.call rfl en154 (hall_Lock who _ hH (Nat.le_trans ha (by decide)) hs hs8 (by omega)) (fun _ h=>h)) ?_
 rintro _ t1 ⟨s1,rfl,hH⟩
 exact WL.go<|WC.rs<|WL.a rfl<|WL.go<|WC.ret<|WQ.ret rfl (.tmp rfl .nil) (⟨rfl,hH⟩)
theorem heed_unlock {b bw bs who s:Nat} {h:HallS} (t:TW) (gw:Bk t bw [.int .i64 (who:Int)] 3 .fz) (gs:Bk t bs [.int .i64 (s:Int)] 3 .fz) (hH:IsHall t b h) (ha:h.acts.length ≤ 899000) (hs:s < h.strs.length) (hs8:h.strs.length ≤ 8) (hl0:0 ≤ (hStr h s).latch) (hl1:(hStr h s).latch ≤ 1000):Cal 129 [.pointer (some ⟨b,0,none⟩),.pointer (some ⟨bw,0,none⟩),.pointer (some ⟨bs,0,none⟩)] t (fun z=>z = .hall ∨ z = .acts ∨ z = .strs) (fun r t' => IsHall t' b (hUnlock h who s).1):=by
 refine Cal.en Tryz.func129 rfl Tryz.ntmps129<|WC.rg<|WL.m rfl<|WL.r (Rd.ld rfl sc3 (gw.cell rfl))<|WL.r (Rd.ld rfl sc3 (gs.cell rfl))<|WL.e (Ef.call rfl en121 (hall_Unlock who _ hH (Nat.le_trans ha (by decide)) hs hs8 hl0 hl1) (fun _ h=>h)) ?_
 rintro _ t1 ⟨s1,rfl,hH⟩
 exact WL.nil<|WQ.end_ rfl .nil (hH)
theorem heed_look {b bw bp pp a n who:Nat} {av ev:Value} {p:HProc} {h:HallS} (t:TW) (gw:Bk t bw [.int .i64 (who:Int)] 3 .fz) (gp:Bk t bp [.pointer (some ⟨pp,0,none⟩)] 190 .fz) (hp:Bk t pp (hC p av ev) 215 (.obj a n)) (hH:IsHall t b h) (ha:h.acts.length ≤ 899000):Cal 155 [.pointer (some ⟨b,0,none⟩),.pointer (some ⟨bw,0,none⟩),.pointer (some ⟨bp,0,none⟩)] t (fun z=>z = .hall ∨ z = .acts ∨ z = .obj a n) (fun r t' => r = .bool true ∧ IsHall t' b (hLook h who) ∧ Bk t' pp (hC { p with time:=h.time } av ev) 215 (.obj a n)):=by
 refine Cal.en Tryz.func155 rfl Tryz.ntmps155<|WC.rs<|WL.a rfl<|WL.go<|WC.drs (fun w=>At w bp 0 [.pointer (some ⟨pp,0,none⟩)] ∧ True) .body (⟨gp.at rfl,trivial⟩) ?_
 obtain ⟨gp,gw,hH,hp⟩:=Q4 (gp.n (TW.drew_step _)) (gw.n (TW.drew_step _)) (hH.n (TW.drew_step _)) (hp.n (TW.drew_step _))
 refine DL.m 1 rfl rfl<|DL.hx 0 rfl (fun w hw=>Rd.ld rfl sc190 (hw.1.one rfl))<|DL.rx 2 rfl (Rd.ld rfl sc3 (gw.cell rfl))<|DL.ex 3 rfl (Ef.call rfl en156 (hall_Look who _ hH (Nat.le_trans ha (by decide))) (fun _ h=>h.elim .inl (fun h=>.inr (.inl h)))) (fun _ _ ⟨s,_⟩=>⟨(gp.step s (by rintro (h | h) <;> cases h)).at rfl,trivial⟩) ?_
 rintro _ t1 ⟨s1,rfl,hH⟩
 obtain ⟨gp,hp⟩:=Q2 (gp.n s1) (hp.n s1)
 refine DL.fx 4 rfl (Fr.ncP rfl)<|DL.fx 5 rfl (Fr.q 3 rfl fa215_3)<|DL.e0x 6 rfl (Ef.T [.int .u64 h.time.now,.int .u64 h.time.seq,.bool h.time.closed] rfl rfl hp sz42 (.inr (.inr (.inr rfl)))) (fun _ _ ⟨_,s,_⟩=>⟨gp.a s,trivial⟩) ?_
 rintro _ t2 ⟨u2,s2,hp'⟩
 have hp:Bk t2 pp [.int .i64 p.placed,av,.int .i64 (p.at_:Int),.int .u64 h.time.now,.int .u64 h.time.seq,.bool h.time.closed,.int .i64 p.err,.slice none 0 0,ev,.bool p.lost] _ _:=hp'
 clear hp'
 have hH:=hH.n s2
 exact DL.D<|WQ.n<|WC.rs<|WL.a rfl<|WL.go<|WC.ret<|WQ.ret rfl (.tmp rfl .nil) (⟨rfl,hH,hp⟩)
theorem heed_plain {f:FuncId} {cap:List Value} {b bd:Nat} {t:TW} {T:Tag → Prop} {Φ:Value → TW → Prop} (gd:Bk t bd [.func (.func f) #[] cap.toArray] 239 .fz) (hf:Ent f) (h:Cal f ([.pointer (some ⟨b,0,none⟩)] ++ cap) t T Φ) :
  Cal 157 [.pointer (some ⟨b,0,none⟩),.pointer (some ⟨bd,0,none⟩)] t T (fun r t' => r = .bool false ∧ ∃ v,Φ v t'):=by
 refine Cal.en Tryz.func157 rfl Tryz.ntmps157<|WC.rs<|WL.a rfl<|WL.go<|WC.rs<|WL.r (Rd.ld rfl sc239 (gd.cell rfl))<|WL.m rfl<|WL.e (Ef.callv (cap:=cap) rfl rfl hf h (fun _ h=>h)) ?_
 rintro v t1 ⟨s1,h1⟩
 exact WL.go<|WC.rs<|WL.a rfl<|WL.go<|WC.ret<|WQ.ret rfl (.tmp rfl .nil) ⟨rfl,v,h1⟩
theorem heed_drain {b bw bs ba bp pp a n who s:Nat} {av ev allv:Value} {p:HProc} {h:HallS} (t:TW) (gw:Bk t bw [.int .i64 (who:Int)] 3 .fz) (gs:Bk t bs [.int .i64 (s:Int)] 3 .fz) (ga:Bk t ba [allv] 91 .fz) (gp:Bk t bp [.pointer (some ⟨pp,0,none⟩)] 190 .fz) (hp:Bk t pp (hC p av ev) 215 (.obj a n)) (hr:Row t (.al a n) 0 48 (kSl kEvent) allv p.all) (hH:IsHall t b h) (ha:h.acts.length ≤ 899000) (hs:s < h.strs.length) (hs8:h.strs.length ≤ 8) (hw8:who < 8) (hq:((h.feed s).q who).l.length ≤ 900000) (hsl:s < p.all.length):Cal 118 [.pointer (some ⟨b,0,none⟩),.pointer (some ⟨bw,0,none⟩),.pointer (some ⟨bs,0,none⟩),.pointer (some ⟨ba,0,none⟩),.pointer (some ⟨bp,0,none⟩)] t (fun z=>z = .hall ∨ z = .acts ∨ z = .ring s who ∨ z = .al a n ∨ z = .obj a n) (fun r t' => IsHall t' b (hDrain h who s) ∧ Bk t' pp (hC { p with lost:=(p.lost || ((h.feed s).q who).lost) } av ev) 215 (.obj a n) ∧ Row t' (.al a n) 0 48 (kSl kEvent) allv (p.all.set s ((h.feed s).q who).l)):=by
 obtain ⟨bl,cl,_,_,rfl,_⟩:∃ bl cl,True ∧ True ∧ allv = .slice (some ⟨bl,0,none⟩) p.all.length cl ∧ True:=by
  obtain ⟨bl,cl,_,e,_⟩:=hr.block (by intro e; rw [e] at hsl; exact absurd hsl (Nat.not_lt_zero _))
  exact ⟨bl,cl,trivial,trivial,e,trivial⟩
 refine Cal.en Tryz.func118 rfl Tryz.ntmps118<|WC.rs<|WL.m rfl<|WL.r (Rd.ld rfl sc3 (gw.cell rfl))<|WL.r (Rd.ld rfl sc3 (gs.cell rfl))<|WL.e (Ef.call rfl en119 (hall_Drain who _ hH ha hs hs8 hw8 hq) (fun _ h=>by rcases h with h | h | h <;> simp [h])) ?_
 rintro _ t1 ⟨s1,V,rfl,hV,hH⟩
 obtain ⟨ga,gp,gs,hp,hr⟩:=Q5 (ga.n s1) (gp.n s1) (gs.n s1) (hp.n s1) (hr.n s1)
 refine WL.m rfl<|WL.f (Fr.ext rfl rfl)<|WL.f (Fr.ext rfl rfl)<|WL.a rfl<|WL.a rfl<|WL.go<|WC.rs<|WL.r (Rd.ld rfl sc91 (ga.cell rfl))<|WL.r (Rd.ld rfl sc3 (gs.cell rfl))<|WL.m rfl ?_
 obtain ⟨AV,cV,rfl,_⟩:=hV.form
 refine WL.f (Fr.ix rfl rfl sl91 (by omega) (by omega) (o' := s) (by simp)) ?_
 refine WL.e0 (Ef.stG (dk:=kSl kEvent) (i:=s) (j:=0) (x0:=p.all[s]) (z:=((h.feed s).q who).l) rfl rfl hr (by simp [kSl]) (by simp [kSl]) (List.getElem?_eq_getElem hsl) rfl (by simp [Value.oneCell']) (fun t' c st ⟨w,e,_⟩=>⟨_,by rw [e]; rfl,hV.step st nofun⟩) sz48 rfl nofun (.inr (.inr (.inr (.inr (.inl rfl)))))) ?_
 rintro _ t2 ⟨s2,hr⟩
 obtain ⟨gp,hH,hp⟩:=Q3 (gp.n s2) (hH.n s2) (hp.n s2)
 refine WL.go<|WC.dr (fun w=>At w bp 0 [.pointer (some ⟨pp,0,none⟩)] ∧ True) .body (⟨gp.at rfl,trivial⟩) ?_
 obtain ⟨gp,hH,hp,hr⟩:=Q4 (gp.n (TW.drew_step _)) (hH.n (TW.drew_step _)) (hp.n (TW.drew_step _)) (hr.n (TW.drew_step _))
 refine DL.hx 0 rfl (fun w hw=>Rd.ld rfl sc190 (hw.1.one rfl))<|DL.rx 1 rfl (Rd.ld rfl sc190 (gp.cell rfl))<|DL.fx 2 rfl (Fr.ncP rfl)<|DL.fx 3 rfl (Fr.q 6 rfl fa215_4)<|DL.fx 4 rfl (Fr.q 9 rfl fa59_3)<|DL.rx 5 rfl (Rd.ld rfl sc4 (hp.cell rfl))<|DL.m 6 rfl rfl ?_
 refine DL.pin 25 rfl (fun hp25=>?_) (fun hp25=>?_)
 focus
  have el:(p.lost || ((h.feed s).q who).lost) = true:=by rw [show p.lost = true from hp25]; rfl
  refine DL.sx 7 rfl<|DL.fx 8 rfl (Fr.pkT rfl rfl)<|DL.fx 9 rfl (Fr.ncP rfl)<|DL.fx 10 rfl (Fr.q 6 rfl fa215_4)<|DL.fx 11 rfl (Fr.q 9 rfl fa59_3)<|DL.e0x 12 rfl (Ef.T [.bool true] rfl rfl hp sz4 (.inr (.inr (.inr (.inr (.inr rfl)))))) (fun _ _ ⟨_,s,_⟩=>⟨gp.a s,trivial⟩) ?_
  rintro _ t3 ⟨u3,s3,hp'⟩
  have hp:Bk t3 pp [.int .i64 p.placed,av,.int .i64 (p.at_:Int),.int .u64 p.time.now,.int .u64 p.time.seq,.bool p.time.closed,.int .i64 p.err,.slice none 0 0,ev,.bool true] _ _:=hp'
 rotate_left
 focus
  have el:(p.lost || ((h.feed s).q who).lost) = ((h.feed s).q who).lost:=by rw [show p.lost = false from hp25]; rfl
  refine DL.m 7 rfl rfl<|DL.fx 8 rfl (Fr.pkF rfl rfl)<|DL.fx 9 rfl (Fr.ncP rfl)<|DL.fx 10 rfl (Fr.q 6 rfl fa215_4)<|DL.fx 11 rfl (Fr.q 9 rfl fa59_3)<|DL.e0x 12 rfl (Ef.T [.bool ((h.feed s).q who).lost] rfl rfl hp sz4 (.inr (.inr (.inr (.inr (.inr rfl)))))) (fun _ _ ⟨_,s,_⟩=>⟨gp.a s,trivial⟩) ?_
  rintro _ t4 ⟨u4,s3,hp'⟩
  have hp:Bk t4 pp [.int .i64 p.placed,av,.int .i64 (p.at_:Int),.int .u64 p.time.now,.int .u64 p.time.seq,.bool p.time.closed,.int .i64 p.err,.slice none 0 0,ev,.bool ((h.feed s).q who).lost] _ _:=hp'
 all_goals
  clear hp'
  obtain ⟨hH,hr⟩:=Q2 (hH.n s3) (hr.n s3)
  exact DL.D<|WQ.end_ rfl .nil (⟨hH,by rw [el]; exact hp,hr⟩)
theorem heed_last {b bw bs bn ba bp pp a n who s N:Nat} {av ev allv:Value} {p:HProc} {h:HallS} (t:TW) (gw:Bk t bw [.int .i64 (who:Int)] 3 .fz) (gs:Bk t bs [.int .i64 (s:Int)] 3 .fz) (gn:Bk t bn [.int .i64 (N:Int)] 3 .fz) (ga:Bk t ba [allv] 91 .fz) (gp:Bk t bp [.pointer (some ⟨pp,0,none⟩)] 190 .fz) (hp:Bk t pp (hC p av ev) 215 (.obj a n)) (hr:Row t (.al a n) 0 48 (kSl kEvent) allv p.all) (he:Sl t kEvent ev p.events) (hH:IsHall t b h) (ha:h.acts.length ≤ 899000) (hs:s < h.strs.length) (hs8:h.strs.length ≤ 8) (hl0:0 ≤ (hStr h s).latch) (hl1:(hStr h s).latch ≤ 1000) (hN:N ≤ 1000) (hal:p.all.length ≤ 1000) (hmt:mTot p.all ≤ 900000):Cal 120 [.pointer (some ⟨b,0,none⟩),.pointer (some ⟨bw,0,none⟩),.pointer (some ⟨bs,0,none⟩),.pointer (some ⟨bn,0,none⟩),.pointer (some ⟨ba,0,none⟩),.pointer (some ⟨bp,0,none⟩)] t (fun z=>z = .hall ∨ z = .acts ∨ z = .strs ∨ z = .obj a n) (fun r t' => IsHall t' b (hUnlock h who s).1 ∧ ∃ ev2,Bk t' pp (hC p av ev2) 215 (.obj a n) ∧ Sl t' kEvent ev2 (if (s:Int) = (N:Int) - 1 then fMerge p.all else p.events) ∧ Row t' (.al a n) 0 48 (kSl kEvent) allv p.all):=by
 have hcv:allv.cells = #[allv]:=by obtain ⟨A,c,rfl,_⟩:=hr.form; rfl
 refine Cal.en Tryz.func120 rfl Tryz.ntmps120<|WC.rs<|WL.m rfl<|WL.r (Rd.ld rfl sc3 (gw.cell rfl))<|WL.r (Rd.ld rfl sc3 (gs.cell rfl))<|WL.e (Ef.call rfl en121 (hall_Unlock who _ hH (Nat.le_trans ha (by decide)) hs hs8 hl0 hl1) (fun _ h=>by rcases h with h | h | h <;> simp [h])) ?_
 rintro _ t1 ⟨s1,rfl,hH⟩
 obtain ⟨ga,gn,gp,gs,he,hp,hr⟩:=Q7 (ga.n s1) (gn.n s1) (gp.n s1) (gs.n s1) (he.n s1) (hp.n s1) (hr.n s1)
 refine WL.go<|WC.rs<|WL.r (Rd.ld rfl sc3 (gs.cell rfl))<|WL.r (Rd.ld rfl sc3 (gn.cell rfl))<|WL.f (Fr.bo rfl rfl (BO.sub (by omega) (by omega)))<|WL.f (Fr.bo rfl rfl BO.eq)<|WL.go ?_
 refine WC.condS rfl (fun hcond14=>?_) (fun hcond14=>?_)
 ·refine WC.dr (fun w=>At w bp 0 [.pointer (some ⟨pp,0,none⟩)] ∧ True) .body (⟨gp.at rfl,trivial⟩) ?_
  obtain ⟨ga,gp,hH,hp,hr⟩:=Q5 (ga.n (TW.drew_step _)) (gp.n (TW.drew_step _)) (hH.n (TW.drew_step _)) (hp.n (TW.drew_step _)) (hr.n (TW.drew_step _))
  refine DL.hx 0 rfl (fun w hw=>Rd.ld rfl sc190 (hw.1.one rfl))<|DL.rx 1 rfl (Rd.ld rfl sc91 (ga.cell rfl))<|DL.ex 2 rfl (Ef.call rfl en122 (feed_Merge _ hr hal hmt) (fun _ h=>h.elim)) (fun _ _ ⟨s,_⟩=>⟨gp.a s,trivial⟩) ?_
  rintro v17 t2 ⟨s2,hV⟩
  obtain ⟨gp,hH,hp,hr⟩:=Q4 (gp.n s2) (hH.n s2) (hp.n s2) (hr.n s2)
  obtain ⟨AV,cV,rfl,_⟩:=hV.form
  refine DL.fx 3 rfl (Fr.ncP rfl)<|DL.fx 4 rfl (Fr.q 6 rfl fa215_4)<|DL.fx 5 rfl (Fr.q 8 rfl fa59_2)<|DL.e0x 6 rfl (Ef.T [.slice AV (fMerge p.all).length cV] rfl rfl hp sz48 (.inr (.inr (.inr (.inr rfl))))) (fun _ _ ⟨_,s,_⟩=>⟨gp.a s,trivial⟩) ?_
  rintro _ t3 ⟨u3,s3,hp'⟩
  have hp:Bk t3 pp [.int .i64 p.placed,av,.int .i64 (p.at_:Int),.int .u64 p.time.now,.int .u64 p.time.seq,.bool p.time.closed,.int .i64 p.err,.slice none 0 0,.slice AV (fMerge p.all).length cV,.bool p.lost] _ _:=hp'
  clear hp'
  obtain ⟨hH,hV,hr⟩:=Q3 (hH.n s3) (hV.n s3) (hr.n s3)
  exact DL.D<|WQ.end_ rfl .nil (⟨hH,_,hp,by rw [if_pos (dcT hcond14)]; exact hV,hr⟩)
 exact WC.skip<|WQ.end_ rfl .nil (⟨hH,_,hp,by rw [if_neg (dcF hcond14)]; exact he,hr⟩)
theorem heed_watch {b bp bo bm bx bw bs pp mb a n who s i:Nat} {av ev uv:Value} {p:HProc} {h:HallS} {m:MineS} {x:Opr} {on:Bool} (t:TW) (gp:Bk t bp [.pointer (some ⟨pp,0,none⟩)] 190 .fz) (go:Bk t bo [.bool on] 4 .fz) (gm:Bk t bm [.pointer (some ⟨mb,0,none⟩)] 109 .fz) (gx:Bk t bx (opC x uv) 56 .fz) (gw:Bk t bw [.int .i64 (who:Int)] 3 .fz) (gs:Bk t bs [.int .i64 (s:Int)] 3 .fz) (hp:Bk t pp (hC p av ev) 215 (.obj a n)) (hM:IsMine t i mb m) (hH:IsHall t b h) (ha:h.acts.length ≤ 899000) (hs:s < h.strs.length) (hs8:h.strs.length ≤ 8) (hk7:(h.feed s).ks.length ≤ 700000):Cal 124 [.pointer (some ⟨b,0,none⟩),.pointer (some ⟨bp,0,none⟩),.pointer (some ⟨bo,0,none⟩),.pointer (some ⟨bm,0,none⟩),.pointer (some ⟨bx,0,none⟩),.pointer (some ⟨bw,0,none⟩),.pointer (some ⟨bs,0,none⟩)] t (fun z=>z = .hall ∨ z = .acts ∨ z = .feed s ∨ z = .mine i ∨ z = .obj a n) (fun r t' => IsHall t' b (if p.time.closed = true then h else if on = true ∧ mineHas m x.user = false ∧ h.cfg.watches ≤ (m.length:Int) then h else (hWatch h who s x.user on)) ∧ IsMine t' i mb (if p.time.closed = true then m else if on = true ∧ mineHas m x.user = false ∧ h.cfg.watches ≤ (m.length:Int) then m else mineSet m x.user on) ∧ Bk t' pp (hC { p with err:=if p.time.closed = true then 5 else if on = true ∧ mineHas m x.user = false ∧ h.cfg.watches ≤ (m.length:Int) then 4 else p.err } av ev) 215 (.obj a n)):=by
 refine Cal.en Tryz.func124 rfl Tryz.ntmps124<|WC.block<|WC.rs<|WL.r (Rd.ld rfl sc190 (gp.cell rfl))<|WL.f (Fr.ncP rfl)<|WL.q 3 rfl fa215_3<|WL.q 5 rfl fa42_2<|WL.r (Rd.ld rfl sc4 (hp.cell rfl))<|WL.a rfl<|WL.go ?_
 refine WC.condS rfl (fun hcond20=>?_) (fun hcond20=>?_)
 ·have hc0:p.time.closed = true:=hcond20
  refine WC.rg<|WL.r (Rd.ld rfl sc190 (gp.cell rfl))<|WL.f (Fr.ncP rfl)<|WL.q 6 rfl fa215_4<|WL.q 6 rfl fa59_0<|WL.e0 (Ef.T [.int .i64 5] rfl rfl hp sz32 (.inr (.inr (.inr (.inr (.inr rfl)))))) ?_
  rintro _ t1 ⟨u1,s1,hp'⟩
  have hp:Bk t1 pp [.int .i64 p.placed,av,.int .i64 (p.at_:Int),.int .u64 p.time.now,.int .u64 p.time.seq,.bool p.time.closed,.int .i64 5,.slice none 0 0,ev,.bool p.lost] _ _:=hp'
  clear hp'
  obtain ⟨hH,hM⟩:=Q2 (hH.n s1) (hM.n s1)
  exact WL.nil<|WQ.bn<|WQ.end_ rfl .nil (by rw [if_pos hc0,if_pos hc0,if_pos hc0]; exact ⟨hH,hM,hp⟩)
 have hc0:¬ p.time.closed = true:=by rw [show p.time.closed = false from hcond20]; decide
 refine WC.rs<|WL.r (Rd.ld rfl sc4 (go.cell rfl))<|WL.m rfl ?_
 refine WL.pin 32 rfl (fun hp32=>?_) (fun hp32=>?_)
 ·have h32:on = true:=hp32
  refine WL.r (Rd.ld rfl sc109 (gm.cell rfl))<|WL.q 1 rfl fa56_1<|WL.r (Rd.ld rfl sc9 (gx.cell rfl))<|WL.e (Ef.call rfl en125 (heed_Has x.user _ hM) (fun _ h=>h.elim)) ?_
  rintro _ t2 ⟨s2,rfl⟩
  obtain ⟨gm,go,gp,gs,gw,gx,hH,hM,hp⟩:=Q9 (gm.n s2) (go.n s2) (gp.n s2) (gs.n s2) (gw.n s2) (gx.n s2) (hH.n s2) (hM.n s2) (hp.n s2)
  refine WL.f (Fr.un_not rfl)<|WL.f (Fr.pkT rfl rfl)<|WL.m rfl ?_
  refine WL.pin 39 rfl (fun hp39=>?_) (fun hp39=>?_)
  ·have h39:mineHas m x.user = false:=by simpa using hp39
   refine WL.r (Rd.ld rfl sc109 (gm.cell rfl))<|WL.e (Ef.call rfl en126 (heed_Count _ hM) (fun _ h=>h.elim)) ?_
   rintro _ t3 ⟨s3,rfl⟩
   obtain ⟨gm,go,gp,gs,gw,gx,hH,hM,hp⟩:=Q9 (gm.n s3) (go.n s3) (gp.n s3) (gs.n s3) (gw.n s3) (gx.n s3) (hH.n s3) (hM.n s3) (hp.n s3)
   refine WL.m rfl<|WL.e (Ef.call rfl en82 (hall_Config _ hH) (fun _ h=>h.elim)) ?_
   rintro _ t4 ⟨s4,rfl⟩
   obtain ⟨gm,go,gp,gs,gw,gx,hH,hM,hp⟩:=Q9 (gm.n s4) (go.n s4) (gp.n s4) (gs.n s4) (gw.n s4) (gx.n s4) (hH.n s4) (hM.n s4) (hp.n s4)
   refine WL.f (Fr.fd1 rfl Tryz.underlying24 rfl sc3 rfl)<|WL.f (Fr.bo rfl rfl BO.ge)<|WL.f (Fr.pkT rfl rfl)<|WL.a rfl<|WL.go ?_
   refine WC.condS rfl (fun hcond30=>?_) (fun hcond30=>?_)
   ·have h30:h.cfg.watches ≤ (m.length:Int):=by simpa using hcond30
    refine WC.rg<|WL.r (Rd.ld rfl sc190 (gp.cell rfl))<|WL.f (Fr.ncP rfl)<|WL.q 6 rfl fa215_4<|WL.q 6 rfl fa59_0<|WL.e0 (Ef.T [.int .i64 4] rfl rfl hp sz32 (.inr (.inr (.inr (.inr (.inr rfl)))))) ?_
    rintro _ t5 ⟨u5,s5,hp'⟩
    have hp:Bk t5 pp [.int .i64 p.placed,av,.int .i64 (p.at_:Int),.int .u64 p.time.now,.int .u64 p.time.seq,.bool p.time.closed,.int .i64 4,.slice none 0 0,ev,.bool p.lost] _ _:=hp'
    clear hp'
    obtain ⟨hH,hM⟩:=Q2 (hH.n s5) (hM.n s5)
    exact WL.nil<|WQ.bn<|WQ.end_ rfl .nil (by rw [if_neg hc0,if_neg hc0,if_neg hc0,if_pos ⟨h32,h39,h30⟩,if_pos ⟨h32,h39,h30⟩,if_pos ⟨h32,h39,h30⟩]; exact ⟨hH,hM,hp⟩)
   have h30:¬ h.cfg.watches ≤ (m.length:Int):=by simpa using hcond30
   refine WC.rs<|WL.m rfl<|WL.r (Rd.ld rfl sc3 (gw.cell rfl))<|WL.r (Rd.ld rfl sc3 (gs.cell rfl))<|WL.q 1 rfl fa56_1<|WL.r (Rd.ld rfl sc9 (gx.cell rfl))<|WL.r (Rd.ld rfl sc4 (go.cell rfl))<|WL.e (Ef.call rfl en127 (hall_Watch who x.user on _ hH ha hs hs8 hk7) (fun _ h=>by rcases h with h | h | h <;> simp [h])) ?_
   rintro _ t6 ⟨s6,hH⟩
   obtain ⟨gm,go,gx,hM,hp⟩:=Q5 (gm.n s6) (go.n s6) (gx.n s6) (hM.n s6) (hp.n s6)
   refine WL.go<|WC.rg<|WL.r (Rd.ld rfl sc109 (gm.cell rfl))<|WL.q 1 rfl fa56_1<|WL.r (Rd.ld rfl sc9 (gx.cell rfl))<|WL.r (Rd.ld rfl sc4 (go.cell rfl))<|WL.e (Ef.call rfl en128 (heed_set x.user on _ hM) (fun _ h=>by simp [h])) ?_
   rintro _ t7 ⟨s7,hM⟩
   obtain ⟨hH,hp⟩:=Q2 (hH.n s7) (hp.n s7)
   exact WL.nil<|WQ.bn<|WQ.end_ rfl .nil (by rw [if_neg hc0,if_neg hc0,if_neg hc0,if_neg (fun e=>h30 e.2.2),if_neg (fun e=>h30 e.2.2),if_neg (fun e=>h30 e.2.2)]; exact ⟨hH,hM,hp⟩)
  have h39:¬ mineHas m x.user = false:=by simpa using hp39
  refine WL.s<|WL.s<|WL.s<|WL.s<|WL.s<|WL.s<|WL.f (Fr.pkF rfl rfl)<|WL.a rfl<|WL.go<|WC.condF ?_
  refine WC.rs<|WL.m rfl<|WL.r (Rd.ld rfl sc3 (gw.cell rfl))<|WL.r (Rd.ld rfl sc3 (gs.cell rfl))<|WL.q 1 rfl fa56_1<|WL.r (Rd.ld rfl sc9 (gx.cell rfl))<|WL.r (Rd.ld rfl sc4 (go.cell rfl))<|WL.e (Ef.call rfl en127 (hall_Watch who x.user on _ hH ha hs hs8 hk7) (fun _ h=>by rcases h with h | h | h <;> simp [h])) ?_
  rintro _ t8 ⟨s8,hH⟩
  obtain ⟨gm,go,gx,hM,hp⟩:=Q5 (gm.n s8) (go.n s8) (gx.n s8) (hM.n s8) (hp.n s8)
  refine WL.go<|WC.rg<|WL.r (Rd.ld rfl sc109 (gm.cell rfl))<|WL.q 1 rfl fa56_1<|WL.r (Rd.ld rfl sc9 (gx.cell rfl))<|WL.r (Rd.ld rfl sc4 (go.cell rfl))<|WL.e (Ef.call rfl en128 (heed_set x.user on _ hM) (fun _ h=>by simp [h])) ?_
  rintro _ t9 ⟨s9,hM⟩
  obtain ⟨hH,hp⟩:=Q2 (hH.n s9) (hp.n s9)
  exact WL.nil<|WQ.bn<|WQ.end_ rfl .nil (by rw [if_neg hc0,if_neg hc0,if_neg hc0,if_neg (fun e=>h39 e.2.1),if_neg (fun e=>h39 e.2.1),if_neg (fun e=>h39 e.2.1)]; exact ⟨hH,hM,hp⟩)
 have h32:¬ on = true:=by rw [show on = false from hp32]; decide
 refine WL.s<|WL.s<|WL.s<|WL.s<|WL.s<|WL.f (Fr.pkF rfl rfl)<|WL.m rfl<|WL.s<|WL.s<|WL.s ?_
 refine WL.s<|WL.s<|WL.s<|WL.f (Fr.pkF rfl rfl)<|WL.a rfl<|WL.go<|WC.condF<|WC.rs<|WL.m rfl<|WL.r (Rd.ld rfl sc3 (gw.cell rfl)) ?_
 refine WL.r (Rd.ld rfl sc3 (gs.cell rfl))<|WL.q 1 rfl fa56_1<|WL.r (Rd.ld rfl sc9 (gx.cell rfl))<|WL.r (Rd.ld rfl sc4 (go.cell rfl))<|WL.e (Ef.call rfl en127 (hall_Watch who x.user on _ hH ha hs hs8 hk7) (fun _ h=>by rcases h with h | h | h <;> simp [h])) ?_
 rintro _ t10 ⟨s10,hH⟩
 obtain ⟨gm,go,gx,hM,hp⟩:=Q5 (gm.n s10) (go.n s10) (gx.n s10) (hM.n s10) (hp.n s10)
 refine WL.go<|WC.rg<|WL.r (Rd.ld rfl sc109 (gm.cell rfl))<|WL.q 1 rfl fa56_1<|WL.r (Rd.ld rfl sc9 (gx.cell rfl))<|WL.r (Rd.ld rfl sc4 (go.cell rfl))<|WL.e (Ef.call rfl en128 (heed_set x.user on _ hM) (fun _ h=>by simp [h])) ?_
 rintro _ t11 ⟨s11,hM⟩
 obtain ⟨hH,hp⟩:=Q2 (hH.n s11) (hp.n s11)
 exact WL.nil<|WQ.bn<|WQ.end_ rfl .nil (by rw [if_neg hc0,if_neg hc0,if_neg hc0,if_neg (fun e=>h32 e.1),if_neg (fun e=>h32 e.1),if_neg (fun e=>h32 e.1)]; exact ⟨hH,hM,hp⟩)
structure HCtx where
 pp:Nat
 mb:Nat
 who:Nat
 op:Opr
 s:Nat
 n:Nat
 allv:Value
def ActR (t:TW) (K:HCtx) (fv:Value):HAct → Prop
 | .bad=>∃ bp,fv = .func (.func 96) #[] #[.pointer (some ⟨bp,0,none⟩)] ∧ Bk t bp [.pointer (some ⟨K.pp,0,none⟩)] 190 .fz
 | .shut=>∃ bw bp,fv = .func (.func 98) #[] #[.pointer (some ⟨bw,0,none⟩),.pointer (some ⟨bp,0,none⟩)] ∧ Bk t bw [.int .i64 (K.who:Int)] 3 .fz ∧ Bk t bp [.pointer (some ⟨K.pp,0,none⟩)] 190 .fz
 | .look=>∃ bw bp,fv = .func (.func 155) #[] #[.pointer (some ⟨bw,0,none⟩),.pointer (some ⟨bp,0,none⟩)] ∧ Bk t bw [.int .i64 (K.who:Int)] 3 .fz ∧ Bk t bp [.pointer (some ⟨K.pp,0,none⟩)] 190 .fz
 | .watch=>∃ bd bp bo bm bx bw bs uv,fv = .func (.func 157) #[] #[.pointer (some ⟨bd,0,none⟩)] ∧ Bk t bd [.func (.func 124) #[] #[.pointer (some ⟨bp,0,none⟩),.pointer (some ⟨bo,0,none⟩),.pointer (some ⟨bm,0,none⟩),.pointer (some ⟨bx,0,none⟩),.pointer (some ⟨bw,0,none⟩),.pointer (some ⟨bs,0,none⟩)]] 239 .fz ∧ Bk t bp [.pointer (some ⟨K.pp,0,none⟩)] 190 .fz ∧ Bk t bo [.bool (decide (K.op.kind = 6))] 4 .fz ∧ Bk t bm [.pointer (some ⟨K.mb,0,none⟩)] 109 .fz ∧ Bk t bx (opC K.op uv) 56 .fz ∧ Bk t bw [.int .i64 (K.who:Int)] 3 .fz ∧ Bk t bs [.int .i64 (K.s:Int)] 3 .fz
 | .lock s=>∃ bw bs,fv = .func (.func 153) #[] #[.pointer (some ⟨bw,0,none⟩),.pointer (some ⟨bs,0,none⟩)] ∧ Bk t bw [.int .i64 (K.who:Int)] 3 .fz ∧ Bk t bs [.int .i64 (s:Int)] 3 .fz
 | .unlock s=>∃ bd bw bs,fv = .func (.func 157) #[] #[.pointer (some ⟨bd,0,none⟩)] ∧ Bk t bd [.func (.func 129) #[] #[.pointer (some ⟨bw,0,none⟩),.pointer (some ⟨bs,0,none⟩)]] 239 .fz ∧ Bk t bw [.int .i64 (K.who:Int)] 3 .fz ∧ Bk t bs [.int .i64 (s:Int)] 3 .fz
 | .drain s=>∃ bd bw bs ba bp,fv = .func (.func 157) #[] #[.pointer (some ⟨bd,0,none⟩)] ∧ Bk t bd [.func (.func 118) #[] #[.pointer (some ⟨bw,0,none⟩),.pointer (some ⟨bs,0,none⟩),.pointer (some ⟨ba,0,none⟩),.pointer (some ⟨bp,0,none⟩)]] 239 .fz ∧ Bk t bw [.int .i64 (K.who:Int)] 3 .fz ∧ Bk t bs [.int .i64 (s:Int)] 3 .fz ∧ Bk t ba [K.allv] 91 .fz ∧ Bk t bp [.pointer (some ⟨K.pp,0,none⟩)] 190 .fz
 | .last s=>∃ bd bw bs bn ba bp,fv = .func (.func 157) #[] #[.pointer (some ⟨bd,0,none⟩)] ∧ Bk t bd [.func (.func 120) #[] #[.pointer (some ⟨bw,0,none⟩),.pointer (some ⟨bs,0,none⟩),.pointer (some ⟨bn,0,none⟩),.pointer (some ⟨ba,0,none⟩),.pointer (some ⟨bp,0,none⟩)]] 239 .fz ∧ Bk t bw [.int .i64 (K.who:Int)] 3 .fz ∧ Bk t bs [.int .i64 (s:Int)] 3 .fz ∧ Bk t bn [.int .i64 (K.n:Int)] 3 .fz ∧ Bk t ba [K.allv] 91 .fz ∧ Bk t bp [.pointer (some ⟨K.pp,0,none⟩)] 190 .fz
theorem ActR.step {t t' : TW} {K:HCtx} {fv:Value} {a:HAct} {T:Tag → Prop} (h:ActR t K fv a) (st:Step T t t') (hT:¬ T .fz):ActR t' K fv a:=by
 cases a with
 | bad=>
  obtain ⟨bp,e,g0⟩:=h
  exact ⟨bp,e,g0.step st hT⟩
 | shut=>
  obtain ⟨bw,bp,e,g0,g1⟩:=h
  exact ⟨bw,bp,e,g0.step st hT,g1.step st hT⟩
 | look=>
  obtain ⟨bw,bp,e,g0,g1⟩:=h
  exact ⟨bw,bp,e,g0.step st hT,g1.step st hT⟩
 | watch=>
  obtain ⟨bd,bp,bo,bm,bx,bw,bs,uv,e,g0,g1,g2,g3,g4,g5,g6⟩:=h
  exact ⟨bd,bp,bo,bm,bx,bw,bs,uv,e,g0.step st hT,g1.step st hT,g2.step st hT,g3.step st hT,g4.step st hT,g5.step st hT,g6.step st hT⟩
 | lock s=>
  obtain ⟨bw,bs,e,g0,g1⟩:=h
  exact ⟨bw,bs,e,g0.step st hT,g1.step st hT⟩
 | unlock s=>
  obtain ⟨bd,bw,bs,e,g0,g1,g2⟩:=h
  exact ⟨bd,bw,bs,e,g0.step st hT,g1.step st hT,g2.step st hT⟩
 | drain s=>
  obtain ⟨bd,bw,bs,ba,bp,e,g0,g1,g2,g3,g4⟩:=h
  exact ⟨bd,bw,bs,ba,bp,e,g0.step st hT,g1.step st hT,g2.step st hT,g3.step st hT,g4.step st hT⟩
 | last s=>
  obtain ⟨bd,bw,bs,bn,ba,bp,e,g0,g1,g2,g3,g4,g5⟩:=h
  exact ⟨bd,bw,bs,bn,ba,bp,e,g0.step st hT,g1.step st hT,g2.step st hT,g3.step st hT,g4.step st hT,g5.step st hT⟩
theorem ActR.n {t t' : TW} {K:HCtx} {fv:Value} {a:HAct} {T:Tag → Prop} (h:ActR t K fv a) (st:Step T t t') (hT:¬ T .fz:=by first | exact id | nofun | (rintro (h | h) <;> cases h) | (rintro (h | h | h) <;> cases h)):ActR t' K fv a:=h.step st hT
theorem ActR.form {t:TW} {K:HCtx} {fv:Value} {a:HAct} (h:ActR t K fv a):∃ f cap,fv = .func (.func f) #[] cap:=by
 cases a with
 | bad=>
  obtain ⟨bp,e,_⟩:=h
  exact ⟨_,_,e⟩
 | shut=>
  obtain ⟨bw,bp,e,_⟩:=h
  exact ⟨_,_,e⟩
 | look=>
  obtain ⟨bw,bp,e,_⟩:=h
  exact ⟨_,_,e⟩
 | watch=>
  obtain ⟨bd,bp,bo,bm,bx,bw,bs,uv,e,_⟩:=h
  exact ⟨_,_,e⟩
 | lock s=>
  obtain ⟨bw,bs,e,_⟩:=h
  exact ⟨_,_,e⟩
 | unlock s=>
  obtain ⟨bd,bw,bs,e,_⟩:=h
  exact ⟨_,_,e⟩
 | drain s=>
  obtain ⟨bd,bw,bs,ba,bp,e,_⟩:=h
  exact ⟨_,_,e⟩
 | last s=>
  obtain ⟨bd,bw,bs,bn,ba,bp,e,_⟩:=h
  exact ⟨_,_,e⟩
def kHA (K:HCtx):Kn HAct where
 k:=2
 R:=fun t a c=>∃ fv,c = [.int .i64 (hNeeds a),fv] ∧ ActR t K fv a
 len:=by rintro t a c ⟨v,rfl,_⟩; rfl
 one:=by
  rintro t a c ⟨v,rfl,h⟩ u hu
  obtain ⟨f,cap,rfl⟩:=h.form
  simp at hu
  rcases hu with rfl | rfl <;> rfl
 stp:=by
  rintro T t t' a c s hT ⟨v,rfl,h⟩
  exact ⟨v,rfl,h.step s hT⟩
structure HOk (h:HallS) (p:HProc) (a:HAct):Prop where
 ha:h.acts.length ≤ 899000
 hs8:h.strs.length ≤ 8
 hw:p.who < 8
 hN:p.n ≤ 1000
 act:match a with
  | .lock s=>s < h.strs.length
  | .unlock s=>s < h.strs.length ∧ 0 ≤ (hStr h s).latch ∧ (hStr h s).latch ≤ 1000
  | .last s=>s < h.strs.length ∧ 0 ≤ (hStr h s).latch ∧ (hStr h s).latch ≤ 1000 ∧ p.all.length ≤ 1000 ∧ mTot p.all ≤ 900000
  | .drain s=>s < h.strs.length ∧ ((h.feed s).q p.who).l.length ≤ 900000 ∧ s < p.all.length
  | .watch=>p.s < h.strs.length ∧ (h.feed p.s).ks.length ≤ 700000
  | _=>True
abbrev hT (i:Nat):Tag → Prop:=fun z=>z = .hall ∨ z = .acts ∨ z = .strs ∨ (∃ s,z = .feed s ∨ ∃ k,z = .ring s k) ∨ z = .mine i ∨ z = .al i 0 ∨ z = .obj i 0
abbrev hPost (i b mb pp:Nat) (av allv:Value) (q:HallS × MineS × HProc × Bool) (r:Value) (t' : TW):Prop:=r = .bool q.2.2.2 ∧ IsHall t' b q.1 ∧ IsMine t' i mb q.2.1 ∧ ∃ ev2,Bk t' pp (hC q.2.2.1 av ev2) 215 (.obj i 0) ∧ Sl t' kEvent ev2 q.2.2.1.events ∧ Row t' (.al i 0) 0 48 (kSl kEvent) allv q.2.2.1.all
theorem heed_do {i b mb pp:Nat} {av ev fv allv:Value} {p:HProc} {h:HallS} {m:MineS} {a:HAct} (t:TW) (hp:Bk t pp (hC p av ev) 215 (.obj i 0)) (hA:ActR t ⟨pp,mb,p.who,p.op,p.s,p.n,allv⟩ fv a) (he:Sl t kEvent ev p.events) (hr:Row t (.al i 0) 0 48 (kSl kEvent) allv p.all) (hH:IsHall t b h) (hM:IsMine t i mb m) (k:HOk h p a) :
  ∃ f cap,fv = .func (.func f) #[] cap.toArray ∧ Ent f ∧ Cal f ([.pointer (some ⟨b,0,none⟩)] ++ cap) t (hT i) (hPost i b mb pp av allv (hAct h m p a)):=by
 have ka:=k.act
 cases a with
 | bad=>
  obtain ⟨bp,rfl,gp⟩:=hA
  exact ⟨96,[_],rfl,en96,(heed_bad _ t gp hp).mono (fun z h=>by simp [hT,h]) fun r t' s ⟨h1,h2⟩=>⟨h1,hH.step s nofun nofun nofun (fun _=>nofun) (fun _ _=>nofun) (fun _ _=>nofun) nofun,hM.step s nofun nofun,ev,h2,he.step s nofun,hr.step s nofun nofun⟩⟩
 | shut=>
  obtain ⟨bw,bp,rfl,gw,gp⟩:=hA
  exact ⟨98,[_,_],rfl,en98,(heed_shut t gw gp hp hH k.ha).mono (fun z h=>by rcases h with h | h | h <;> simp [hT,h]) fun r t' s ⟨h1,h2,h3⟩=>⟨h1,h2,hM.step s (by rintro (h | h | h) <;> cases h) (by rintro (h | h | h) <;> cases h),ev,h3,he.step s (by rintro (h | h | h) <;> cases h),hr.step s (by rintro (h | h | h) <;> cases h) (by rintro (h | h | h) <;> cases h)⟩⟩
 | look=>
  obtain ⟨bw,bp,rfl,gw,gp⟩:=hA
  exact ⟨155,[_,_],rfl,en155,(heed_look t gw gp hp hH k.ha).mono (fun z h=>by rcases h with h | h | h <;> simp [hT,h]) fun r t' s ⟨h1,h2,h3⟩=>⟨h1,h2,hM.step s (by rintro (h | h | h) <;> cases h) (by rintro (h | h | h) <;> cases h),ev,h3,he.step s (by rintro (h | h | h) <;> cases h),hr.step s (by rintro (h | h | h) <;> cases h) (by rintro (h | h | h) <;> cases h)⟩⟩
 | lock s0=>
  obtain ⟨bw,bs,rfl,gw,gs⟩:=hA
  exact ⟨153,[_,_],rfl,en153,(heed_lock (who:=p.who) t gw gs hH k.ha ka k.hs8 (by have:=k.hw; omega)).mono (fun z h=>by rcases h with h | h | h <;> simp [hT,h]) fun r t' s ⟨h1,h2⟩=>⟨h1,h2,hM.step s (by rintro (h | h | h) <;> cases h) (by rintro (h | h | h) <;> cases h),ev,hp.step s (by rintro (h | h | h) <;> cases h),he.step s (by rintro (h | h | h) <;> cases h),hr.step s (by rintro (h | h | h) <;> cases h) (by rintro (h | h | h) <;> cases h)⟩⟩
 | unlock s0=>
  obtain ⟨bd,bw,bs,rfl,gd,gw,gs⟩:=hA
  exact ⟨157,[_],rfl,en157,(heed_plain (cap:=[_,_]) gd en129 (heed_unlock t gw gs hH k.ha ka.1 k.hs8 ka.2.1 ka.2.2)).mono (fun z h=>by rcases h with h | h | h <;> simp [hT,h]) fun r t' s ⟨h1,_,h2⟩=>⟨h1,h2,hM.step s (by rintro (h | h | h) <;> cases h) (by rintro (h | h | h) <;> cases h),ev,hp.step s (by rintro (h | h | h) <;> cases h),he.step s (by rintro (h | h | h) <;> cases h),hr.step s (by rintro (h | h | h) <;> cases h) (by rintro (h | h | h) <;> cases h)⟩⟩
 | drain s0=>
  obtain ⟨bd,bw,bs,ba,bp,rfl,gd,gw,gs,ga,gp⟩:=hA
  exact ⟨157,[_],rfl,en157,(heed_plain (cap:=[_,_,_,_]) gd en118 (heed_drain t gw gs ga gp hp hr hH k.ha ka.1 k.hs8 k.hw ka.2.1 ka.2.2)).mono (fun z h=>by rcases h with h | h | h | h | h <;> simp [hT,h]) fun r t' s ⟨h1,_,h2,h3,h4⟩=>⟨h1,h2,hM.step s (by rintro (h | h | h | h | h) <;> cases h) (by rintro (h | h | h | h | h) <;> cases h),ev,h3,he.step s (by rintro (h | h | h | h | h) <;> cases h),h4⟩⟩
 | last s0=>
  obtain ⟨bd,bw,bs,bn,ba,bp,rfl,gd,gw,gs,gn,ga,gp⟩:=hA
  exact ⟨157,[_],rfl,en157,(heed_plain (cap:=[_,_,_,_,_]) gd en120 (heed_last t gw gs gn ga gp hp hr he hH k.ha ka.1 k.hs8 ka.2.1 ka.2.2.1 k.hN ka.2.2.2.1 ka.2.2.2.2)).mono (fun z h=>by rcases h with h | h | h | h <;> simp [hT,h]) fun r t' s ⟨h1,_,h2,ev2,h3,h4,h5⟩=>⟨h1,h2,hM.step s (by rintro (h | h | h | h) <;> cases h) (by rintro (h | h | h | h) <;> cases h),ev2,h3,h4,h5⟩⟩
 | watch=>
  obtain ⟨bd,bp,bo,bm,bx,bw,bs,uv,rfl,gd,gp,go,gm,gx,gw,gs⟩:=hA
  refine ⟨157,[_],rfl,en157,(heed_plain (cap:=[_,_,_,_,_,_]) gd en124 (heed_watch t gp go gm gx gw gs hp hM hH k.ha ka.1 k.hs8 ka.2)).mono (fun z h=>by rcases h with h | h | h | h | h <;> simp [hT,h]) fun r t' s ⟨h1,_,h2,h3,h4⟩=>?_⟩
  have g1:=he.step s (by rintro (h | h | h | h | h) <;> cases h)
  have g2:=hr.step s (by rintro (h | h | h | h | h) <;> cases h) (by rintro (h | h | h | h | h) <;> cases h)
  unfold hAct hOn
  simp only
  by_cases c1:p.time.closed = true
  ·rw [if_pos c1] at h2 h3 h4 ⊢
   exact ⟨h1,h2,h3,ev,h4,g1,g2⟩
  rw [if_neg c1] at h2 h3 h4 ⊢
  by_cases c2:decide (p.op.kind = 6) = true ∧ mineHas m p.op.user = false ∧ h.cfg.watches ≤ (m.length:Int)
  ·rw [if_pos c2] at h2 h3 h4 ⊢
   exact ⟨h1,h2,h3,ev,h4,g1,g2⟩
  rw [if_neg c2] at h2 h3 h4 ⊢
  exact ⟨h1,h2,h3,ev,h4,g1,g2⟩
theorem heed_add {pp a n B f:Nat} {cap:Array Value} {K:HCtx} {p:HProc} {av ev:Value} {acts:List HAct} {act:HAct} {q:Int} (t:TW) (hp:Bk t pp (hC p av ev) 215 (.obj a n)) (hr:Row t (.proc a n) B 235 (kHA K) av acts) (hB:B ≤ t.w.heap.size) (hl:acts.length ≤ 900000) (hA:ActR t K (.func (.func f) #[] cap) act) (hq:hNeeds act = q):Cal 95 [.pointer (some ⟨pp,0,none⟩),.int .i64 q,.func (.func f) #[] cap] t (fun z=>z = .obj a n ∨ z = .proc a n) (fun r t' => ∃ av2,Bk t' pp (hC p av2 ev) 215 (.obj a n) ∧ Row t' (.proc a n) B 235 (kHA K) av2 (acts ++ [act])):=by
 subst hq
 obtain ⟨Ac,cc,rfl,_⟩:=hr.form
 refine Cal.en Tryz.func95 rfl Tryz.ntmps95<|WC.rg<|WL.m rfl<|WL.m rfl<|WL.f (Fr.ncP rfl)<|WL.q 1 rfl fa215_1<|WL.r (Rd.ld rfl sc213 (hp.cell rfl))<|WL.m rfl<|WL.m rfl<|WL.f (Fr.bd (vs:=[(0,.int .i64 (hNeeds act)),(1,.func (.func f) #[] cap)]) (cs:=#[.int .i64 (hNeeds act),.func (.func f) #[] cap]) rfl (fun w=>by kernel_rfl)) ?_
 refine WL.e (Ef.bs (.loc 14) (vs:=[(0,.agg #[.int .i64 (hNeeds act),.func (.func f) #[] cap])]) (cs:=[.int .i64 (hNeeds act),.func (.func f) #[] cap]) (e:=235) rfl (fun w=>by kernel_rfl)) ?_
 rintro _ t1 ⟨b14,rfl,s1,hb14,nb14,_⟩
 obtain ⟨hA,hp,hr⟩:=Q3 (hA.n s1) (hp.n s1) (hr.n s1)
 refine WL.e (Ef.ap1 (dk:=kHA K) (y1:=act) rfl rfl hb14 ⟨_,rfl,hA⟩ sl213 el235 (Nat.succ_pos 1) hr (Nat.le_trans hB (by have:=s1.size; omega)) (by omega) (by decide) nofun (.inr (.inr rfl))) ?_
 rintro v15 t2 ⟨s2,hr2⟩
 have hp:=hp.n s2
 obtain ⟨A2,c2,rfl,_⟩:=hr2.form
 refine WL.f (Fr.ncP rfl)<|WL.q 1 rfl fa215_1<|WL.e0 (Ef.T [.slice A2 (acts ++ [act]).length c2] rfl rfl hp sz213 (.inr (.inl rfl))) ?_
 rintro _ t3 ⟨u3,s3,hp'⟩
 have hp:Bk t3 pp [.int .i64 p.placed,.slice A2 (acts ++ [act]).length c2,.int .i64 (p.at_:Int),.int .u64 p.time.now,.int .u64 p.time.seq,.bool p.time.closed,.int .i64 p.err,.slice none 0 0,ev,.bool p.lost] _ _:=hp'
 clear hp'
 have hr2:=hr2.n s3
 exact WL.nil<|WQ.end_ rfl .nil (⟨_,hp,hr2⟩)
end Go.Proofs.YthilcgjhhhmgoaaGreat.X
