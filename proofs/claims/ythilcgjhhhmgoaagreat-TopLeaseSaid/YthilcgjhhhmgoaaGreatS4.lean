/- One part of the proof: FHeed4, FHeed5, FHeed6, FHeed7, FRead1, FRead2, FRead3, FRead4, FRun1, FRun2, FRun3, FRun4. No condition beyond those that each theorem names. -/
import Derived.Test.YthilcgjhhhmgoaaGreatS3
set_option linter.unusedVariables false
set_option linter.unusedSimpArgs false
set_option linter.unusedSectionVars false
set_option maxHeartbeats 1000000
namespace Go.Proofs.YthilcgjhhhmgoaaGreat.X
theorem heed_plainA {pp a n B f:Nat} {cap:Array Value} {K:HCtx} {p:HProc} {av ev:Value} {acts:List HAct} {act:HAct} (t:TW) (hp:Bk t pp (hC p av ev) 215 (.obj a n)) (hr:Row t (.proc a n) B 235 (kHA K) av acts) (hB:B ≤ t.w.heap.size) (hl:acts.length ≤ 900000) (hN:hNeeds act = -1) (hA:∀ t' bd,Step No t t' → Bk t' bd [.func (.func f) #[] cap] 239 .fz → ActR t' K (.func (.func 157) #[] #[.pointer (some ⟨bd,0,none⟩)]) act):Cal 117 [.pointer (some ⟨pp,0,none⟩),.func (.func f) #[] cap] t (fun z=>z = .obj a n ∨ z = .proc a n) (fun r t' => ∃ av2,Bk t' pp (hC p av2 ev) 215 (.obj a n) ∧ Row t' (.proc a n) B 235 (kHA K) av2 (acts ++ [act])):=by
 refine Cal.en Tryz.func117 rfl Tryz.ntmps117<|WC.rs<|WL.e (Ef.bx (.fz) (cs:=[.func (.func f) #[] cap]) rfl) ?_
 rintro _ t1 ⟨b3,rfl,s1,hb3,nb3,mb3⟩
 obtain ⟨hB,hp,hr⟩:=Q3 (Nat.le_trans hB s1.size) (hp.n s1) (hr.n s1)
 refine WL.go<|WC.rg<|WL.m rfl<|WL.f (Fr.mf rfl)<|WL.e (Ef.call rfl en95 (heed_add _ hp hr hB hl (hA _ _ s1 hb3) hN) (fun _ h=>h)) ?_
 rintro _ t2 ⟨s2,av2,hp,hr⟩
 have hB:=Nat.le_trans hB s2.size
 exact WL.nil<|WQ.end_ rfl .nil (⟨_,hp,hr⟩)
theorem heed_locked {pp a n B s:Nat} {K:HCtx} {p:HProc} {av ev:Value} {acts:List HAct} (t:TW) (hp:Bk t pp (hC p av ev) 215 (.obj a n)) (hr:Row t (.proc a n) B 235 (kHA K) av acts) (hB:B ≤ t.w.heap.size) (hl:acts.length ≤ 900000):Cal 115 [.pointer (some ⟨pp,0,none⟩),.int .i64 (K.who:Int),.int .i64 (s:Int)] t (fun z=>z = .obj a n ∨ z = .proc a n) (fun r t' => ∃ av2,Bk t' pp (hC p av2 ev) 215 (.obj a n) ∧ Row t' (.proc a n) B 235 (kHA K) av2 (acts ++ [.lock s])):=by
 refine Cal.en Tryz.func115 rfl Tryz.ntmps115<|WC.rs<|WL.e (Ef.bx (.fz) (cs:=[.int .i64 (K.who:Int)]) rfl) ?_
 rintro _ t1 ⟨b4,rfl,s1,hb4,nb4,mb4⟩
 obtain ⟨hB,hp,hr⟩:=Q3 (Nat.le_trans hB s1.size) (hp.n s1) (hr.n s1)
 refine WL.e (Ef.bx (.fz) (cs:=[.int .i64 (s:Int)]) rfl) ?_
 rintro _ t2 ⟨b5,rfl,s2,hb5,nb5,mb5⟩
 obtain ⟨hB,hb4,hp,hr⟩:=Q4 (Nat.le_trans hB s2.size) (hb4.n s2) (hp.n s2) (hr.n s2)
 refine WL.go<|WC.rg<|WL.m rfl<|WL.r (Rd.ld rfl sc3 (hb5.cell rfl))<|WL.f (Fr.mf rfl)<|WL.e (Ef.call rfl en95 (heed_add (act:=.lock s) _ hp hr hB hl ⟨_,_,rfl,hb4,hb5⟩ rfl) (fun _ h=>h)) ?_
 rintro _ t3 ⟨s3,av2,hp,hr⟩
 have hB:=Nat.le_trans hB s3.size
 exact WL.nil<|WQ.end_ rfl .nil (⟨_,hp,hr⟩)
theorem heed_lookA {a n B:Nat} {K:HCtx} {p:HProc} {av ev:Value} {acts:List HAct} (t:TW) (hp:Bk t K.pp (hC p av ev) 215 (.obj a n)) (hr:Row t (.proc a n) B 235 (kHA K) av acts) (hB:B ≤ t.w.heap.size) (hl:acts.length ≤ 900000):Cal 116 [.pointer (some ⟨K.pp,0,none⟩),.int .i64 (K.who:Int)] t (fun z=>z = .obj a n ∨ z = .proc a n) (fun r t' => ∃ av2,Bk t' K.pp (hC p av2 ev) 215 (.obj a n) ∧ Row t' (.proc a n) B 235 (kHA K) av2 (acts ++ [.look])):=by
 refine Cal.en Tryz.func116 rfl Tryz.ntmps116<|WC.rs<|WL.e (Ef.bx (.fz) (cs:=[.pointer (some ⟨K.pp,0,none⟩)]) rfl) ?_
 rintro _ t1 ⟨b2,rfl,s1,hb2,nb2,mb2⟩
 obtain ⟨hB,hp,hr⟩:=Q3 (Nat.le_trans hB s1.size) (hp.n s1) (hr.n s1)
 refine WL.e (Ef.bx (.fz) (cs:=[.int .i64 (K.who:Int)]) rfl) ?_
 rintro _ t2 ⟨b3,rfl,s2,hb3,nb3,mb3⟩
 obtain ⟨hB,hb2,hp,hr⟩:=Q4 (Nat.le_trans hB s2.size) (hb2.n s2) (hp.n s2) (hr.n s2)
 refine WL.go<|WC.rg<|WL.r (Rd.ld rfl sc190 (hb2.cell rfl))<|WL.f (Fr.mf rfl)<|WL.e (Ef.call rfl en95 (heed_add (act:=.look) _ hp hr hB hl ⟨_,_,rfl,hb3,hb2⟩ rfl) (fun _ h=>h)) ?_
 rintro _ t3 ⟨s3,av2,hp,hr⟩
 have hB:=Nat.le_trans hB s3.size
 exact WL.nil<|WQ.end_ rfl .nil (⟨_,hp,hr⟩)
theorem heed_watchA {a n B b:Nat} {K:HCtx} {p:HProc} {h:HallS} {av ev uv:Value} {acts:List HAct} (t:TW) (hp:Bk t K.pp (hC p av ev) 215 (.obj a n)) (hr:Row t (.proc a n) B 235 (kHA K) av acts) (hB:B ≤ t.w.heap.size) (hl:acts.length ≤ 800000) (hH:IsHall t b h) (hst:stripeOf K.op.user h.cfg.stripes = (K.s:Int)) (hus:K.op.user.size ≤ 1000000) (hns:h.cfg.stripes ≤ 1000000):Cal 100 [.pointer (some ⟨K.pp,0,none⟩),.pointer (some ⟨b,0,none⟩),.pointer (some ⟨K.mb,0,none⟩),.int .i64 (K.who:Int),.agg (opC K.op uv).toArray] t (fun z=>z = .obj a n ∨ z = .proc a n) (fun r t' => ∃ av2,Bk t' K.pp (hC p av2 ev) 215 (.obj a n) ∧ Row t' (.proc a n) B 235 (kHA K) av2 (acts ++ [.lock K.s] ++ [.look] ++ [.watch] ++ [.unlock K.s])):=by
 refine Cal.en Tryz.func100 rfl Tryz.ntmps100<|WC.rs<|WL.e (Ef.bx (.fz) (cs:=[.pointer (some ⟨K.pp,0,none⟩)]) rfl) ?_
 rintro _ t1 ⟨b5,rfl,s1,hb5,nb5,mb5⟩
 obtain ⟨hB,hH,hp,hr⟩:=Q4 (Nat.le_trans hB s1.size) (hH.n s1) (hp.n s1) (hr.n s1)
 refine WL.e (Ef.bx (.fz) (cs:=[.pointer (some ⟨K.mb,0,none⟩)]) rfl) ?_
 rintro _ t2 ⟨b7,rfl,s2,hb7,nb7,mb7⟩
 obtain ⟨hB,hH,hb5,hp,hr⟩:=Q5 (Nat.le_trans hB s2.size) (hH.n s2) (hb5.n s2) (hp.n s2) (hr.n s2)
 refine WL.e (Ef.bx (.fz) (cs:=[.int .i64 (K.who:Int)]) rfl) ?_
 rintro _ t3 ⟨b8,rfl,s3,hb8,nb8,mb8⟩
 obtain ⟨hB,hH,hb5,hb7,hp,hr⟩:=Q6 (Nat.le_trans hB s3.size) (hH.n s3) (hb5.n s3) (hb7.n s3) (hp.n s3) (hr.n s3)
 refine WL.e (Ef.bx (.fz) (cs:=[.int .i64 K.op.kind,.string K.op.user,.int .i64 K.op.id,.int .i64 K.op.status,.int .i64 K.op.prio,.int .u64 K.op.ttl,uv]) rfl) ?_
 rintro _ t4 ⟨b9,rfl,s4,hb9,nb9,mb9⟩
 obtain ⟨hB,hH,hb5,hb7,hb8,hp,hr⟩:=Q7 (Nat.le_trans hB s4.size) (hH.n s4) (hb5.n s4) (hb7.n s4) (hb8.n s4) (hp.n s4) (hr.n s4)
 refine WL.go<|WC.rs<|WL.m rfl<|WL.q 1 rfl fa56_1<|WL.r (Rd.ld rfl sc9 (hb9.cell rfl))<|WL.e (Ef.call rfl en89 (hall_Stripe K.op.user _ hH hus hns) (fun _ h=>h.elim)) ?_
 rintro _ t5 ⟨s5,rfl⟩
 obtain ⟨hB,hb5,hb7,hb8,hb9,hp,hr⟩:=Q7 (Nat.le_trans hB s5.size) (hb5.n s5) (hb7.n s5) (hb8.n s5) (hb9.n s5) (hp.n s5) (hr.n s5)
 rw [hst]
 refine WL.e (Ef.al (.loc 10) zr3) ?_
 rintro _ t6 ⟨b10,rfl,s6,hb10,nb10,mb10⟩
 obtain ⟨hB,hb5,hb7,hb8,hb9,hp,hr⟩:=Q7 (Nat.le_trans hB s6.size) (hb5.n s6) (hb7.n s6) (hb8.n s6) (hb9.n s6) (hp.n s6) (hr.n s6)
 refine WL.e0 (Ef.T [.int .i64 (K.s:Int)] rfl rfl hb10 sz3 (.inl nb10)) ?_
 rintro _ t7 ⟨u7,s7,hb10'⟩
 have hb10:Bk t7 b10 [.int .i64 (K.s:Int)] _ _:=hb10'
 clear hb10'
 obtain ⟨hB,hb5,hb7,hb8,hb9,hp,hr⟩:=Q7 (Nat.le_trans hB s7.size) (hb5.n s7) (hb7.n s7) (hb8.n s7) (hb9.n s7) (hp.n s7) (hr.n s7)
 have q1:=TW.tagv_step t7 (v:=(.slice (some ⟨b10,0,none⟩) 0 0)) (g' := .fz) (fun b hb=>by simp [Value.ownBlock] at hb; subst hb; exact hb10.2)
 refine WL.tag (.slice (some ⟨b10,0,none⟩) 0 0) .fz (.inl fun b hb=>by simp [Value.ownBlock] at hb; subst hb; exact nb10) ?_
 obtain ⟨hB,hb5,hb7,hb8,hb9,hp,hr⟩:=Q7 (Nat.le_trans hB q1.size) (hb5.n q1) (hb7.n q1) (hb8.n q1) (hb9.n q1) (hp.n q1) (hr.n q1)
 have hb10:=hb10.frz
 refine WL.go<|WC.rs<|WL.q 0 rfl fa56_0<|WL.r (Rd.ld rfl sc3 (hb9.cell rfl))<|WL.f (Fr.bo rfl rfl BO.eq)<|WL.e (Ef.al (.loc 11) zr4) ?_
 rintro _ t8 ⟨b11,rfl,s8,hb11,nb11,mb11⟩
 obtain ⟨hB,hb10,hb5,hb7,hb8,hb9,hp,hr⟩:=Q8 (Nat.le_trans hB s8.size) (hb10.n s8) (hb5.n s8) (hb7.n s8) (hb8.n s8) (hb9.n s8) (hp.n s8) (hr.n s8)
 refine WL.e0 (Ef.T [.bool (decide (K.op.kind = 6))] rfl rfl hb11 sz4 (.inl nb11)) ?_
 rintro _ t9 ⟨u9,s9,hb11'⟩
 have hb11:Bk t9 b11 [.bool (decide (K.op.kind = 6))] _ _:=hb11'
 clear hb11'
 obtain ⟨hB,hb10,hb5,hb7,hb8,hb9,hp,hr⟩:=Q8 (Nat.le_trans hB s9.size) (hb10.n s9) (hb5.n s9) (hb7.n s9) (hb8.n s9) (hb9.n s9) (hp.n s9) (hr.n s9)
 have q2:=TW.tagv_step t9 (v:=(.slice (some ⟨b11,0,none⟩) 0 0)) (g' := .fz) (fun b hb=>by simp [Value.ownBlock] at hb; subst hb; exact hb11.2)
 refine WL.tag (.slice (some ⟨b11,0,none⟩) 0 0) .fz (.inl fun b hb=>by simp [Value.ownBlock] at hb; subst hb; exact nb11) ?_
 obtain ⟨hB,hb10,hb5,hb7,hb8,hb9,hp,hr⟩:=Q8 (Nat.le_trans hB q2.size) (hb10.n q2) (hb5.n q2) (hb7.n q2) (hb8.n q2) (hb9.n q2) (hp.n q2) (hr.n q2)
 have hb11:=hb11.frz
 refine WL.go<|WC.rs<|WL.r (Rd.ld rfl sc190 (hb5.cell rfl))<|WL.r (Rd.ld rfl sc3 (hb8.cell rfl))<|WL.r (Rd.ld rfl sc3 (hb10.cell rfl))<|WL.e (Ef.call rfl en115 (heed_locked _ hp hr hB (by omega)) (fun _ h=>h)) ?_
 rintro _ t10 ⟨s10,av1,hp,hr⟩
 obtain ⟨hB,hb10,hb11,hb5,hb7,hb8,hb9⟩:=Q7 (Nat.le_trans hB s10.size) (hb10.n s10) (hb11.n s10) (hb5.n s10) (hb7.n s10) (hb8.n s10) (hb9.n s10)
 refine WL.go<|WC.rs<|WL.r (Rd.ld rfl sc190 (hb5.cell rfl))<|WL.r (Rd.ld rfl sc3 (hb8.cell rfl))<|WL.e (Ef.call rfl en116 (heed_lookA _ hp hr hB (by simp only [List.length_append,List.length_cons,List.length_nil,List.length_map,List.length_range]; omega)) (fun _ h=>h)) ?_
 rintro _ t11 ⟨s11,av2,hp,hr⟩
 obtain ⟨hB,hb10,hb11,hb5,hb7,hb8,hb9⟩:=Q7 (Nat.le_trans hB s11.size) (hb10.n s11) (hb11.n s11) (hb5.n s11) (hb7.n s11) (hb8.n s11) (hb9.n s11)
 refine WL.go<|WC.rs<|WL.r (Rd.ld rfl sc190 (hb5.cell rfl))<|WL.f (Fr.mf rfl)<|WL.e (Ef.call rfl en117 (heed_plainA (act:=.watch) _ hp hr hB (by simp only [List.length_append,List.length_cons,List.length_nil,List.length_map,List.length_range]; omega) rfl (fun t2 bd s gd=>⟨bd,b5,b11,b7,b9,b8,b10,uv,rfl,gd,hb5.step s id,hb11.step s id,hb7.step s id,hb9.step s id,hb8.step s id,hb10.step s id⟩)) (fun _ h=>h)) ?_
 rintro _ t12 ⟨s12,av3,hp,hr⟩
 obtain ⟨hB,hb10,hb5,hb8⟩:=Q4 (Nat.le_trans hB s12.size) (hb10.n s12) (hb5.n s12) (hb8.n s12)
 refine WL.go<|WC.rg<|WL.r (Rd.ld rfl sc190 (hb5.cell rfl))<|WL.f (Fr.mf rfl)<|WL.e (Ef.call rfl en117 (heed_plainA (act:=.unlock K.s) _ hp hr hB (by simp only [List.length_append,List.length_cons,List.length_nil,List.length_map,List.length_range]; omega) rfl (fun t2 bd s gd=>⟨bd,b8,b10,rfl,gd,hb8.step s id,hb10.step s id⟩)) (fun _ h=>h)) ?_
 rintro _ t13 ⟨s13,av4,hp,hr⟩
 have hB:=Nat.le_trans hB s13.size
 exact WL.nil<|WQ.end_ rfl .nil (⟨_,hp,hr⟩)
abbrev pollK (pp mb who:Nat) (x:Opr) (s N:Nat) (v:Value):HCtx:=⟨pp,mb,who,x,s,N,v⟩
theorem map_succ {α:Type} (f:Nat → α) (l:List α) (k:Nat):l ++ (List.range k).map f ++ [f k] = l ++ (List.range (k + 1)).map f:=by
 rw [List.range_succ,List.map_append,List.append_assoc]
 rfl
theorem Row.nils {α:Type} {d:Kn α} {t:TW} {b N:Nat} {g:Tag} {B e:Nat} (hb:Bk t b (List.replicate N (.slice none 0 0)) e g) (hB:B ≤ b) (hm:N ≤ maxLen):Row t g B e (kSl d) (.slice (some ⟨b,0,none⟩) N N) (List.replicate N []):=by
 have h:=Row.of_block (d:=kSl d) (xs:=List.replicate N ([]:List α)) (cap:=N) hb hB (by simp) (by simp [kSl]) hm (fun i x hi=>?_)
 ·simpa using h
 obtain ⟨hlt,hx⟩:=List.getElem?_eq_some_iff.1 hi
 have hx:x = []:=by
  rw [← hx]
  simp
 subst hx
 refine ⟨.slice none 0 0,?_,Sl.nil _ _ _ _⟩
 have hlt:i < N:=by simpa using hlt
 unfold seg
 show ((List.replicate N (Value.slice none 0 0)).drop (i * 1)).take 1 = _
 rw [List.drop_replicate,List.take_replicate]
 rw [show min 1 (N - i * 1) = 1 by omega]
 rfl
theorem heed_poll {a n B b pp mb who s N:Nat} {x:Opr} {p:HProc} {h:HallS} {ev:Value} (t:TW) (hp:Bk t pp (hC p (.slice none 0 0) ev) 215 (.obj a n)) (hB:B ≤ t.w.heap.size) (hH:IsHall t b h) (hN:h.cfg.stripes = (N:Int)) (hN8:N ≤ 1000):Cal 97 [.pointer (some ⟨pp,0,none⟩),.pointer (some ⟨b,0,none⟩),.int .i64 (who:Int)] t (fun z=>z = .obj a n ∨ z = .proc a n) (fun r t' => ∃ av allv,Bk t' pp (hC p av ev) 215 (.obj a n) ∧ Row t' (.proc a n) B 235 (kHA (pollK pp mb who x s N allv)) av ((List.range N).map HAct.lock ++ [HAct.look] ++ (List.range N).map HAct.drain ++ (List.range N).map HAct.last) ∧ Row t' (.al a n) 0 48 (kSl kEvent) allv (List.replicate N [])):=by
 have hz:t.w.heap.size ≤ t.w.heap.size:=Nat.le_refl _
 refine Cal.en Tryz.func97 rfl Tryz.ntmps97<|WC.rs<|WL.e (Ef.bx (.fz) (cs:=[.pointer (some ⟨pp,0,none⟩)]) rfl) ?_
 rintro _ t1 ⟨b3,rfl,s1,hb3,nb3,mb3⟩
 obtain ⟨hB,hH,hp⟩:=Q3 (Nat.le_trans hB s1.size) (hH.n s1) (hp.n s1)
 refine WL.e (Ef.bx (.fz) (cs:=[.int .i64 (who:Int)]) rfl) ?_
 rintro _ t2 ⟨b5,rfl,s2,hb5,nb5,mb5⟩
 obtain ⟨hB,hH,hb3,hp⟩:=Q4 (Nat.le_trans hB s2.size) (hH.n s2) (hb3.n s2) (hp.n s2)
 refine WL.go<|WC.rs<|WL.m rfl<|WL.e (Ef.call rfl en82 (hall_Config _ hH) (fun _ h=>h.elim)) ?_
 rintro _ t3 ⟨s3,rfl⟩
 obtain ⟨hB,hH,hb3,hb5,hp⟩:=Q5 (Nat.le_trans hB s3.size) (hH.n s3) (hb3.n s3) (hb5.n s3) (hp.n s3)
 refine WL.f (Fr.fd1 rfl Tryz.underlying24 rfl sc3 rfl)<|WL.re 13 (v' := .int .i64 (N:Int)) rfl (congrArg (Value.int .i64) hN)<|WL.e (Ef.al (.loc 6) zr3) ?_
 rintro _ t4 ⟨b6,rfl,s4,hb6,nb6,mb6⟩
 obtain ⟨hB,hH,hb3,hb5,hp⟩:=Q5 (Nat.le_trans hB s4.size) (hH.n s4) (hb3.n s4) (hb5.n s4) (hp.n s4)
 refine WL.e0 (Ef.T [.int .i64 (N:Int)] rfl rfl hb6 sz3 (.inl nb6)) ?_
 rintro _ t5 ⟨u5,s5,hb6'⟩
 have hb6:Bk t5 b6 [.int .i64 (N:Int)] _ _:=hb6'
 clear hb6'
 obtain ⟨hB,hH,hb3,hb5,hp⟩:=Q5 (Nat.le_trans hB s5.size) (hH.n s5) (hb3.n s5) (hb5.n s5) (hp.n s5)
 have q1:=TW.tagv_step t5 (v:=(.slice (some ⟨b6,0,none⟩) 0 0)) (g' := .fz) (fun b hb=>by simp [Value.ownBlock] at hb; subst hb; exact hb6.2)
 refine WL.tag (.slice (some ⟨b6,0,none⟩) 0 0) .fz (.inl fun b hb=>by simp [Value.ownBlock] at hb; subst hb; exact nb6) ?_
 obtain ⟨hB,hH,hb3,hb5,hp⟩:=Q5 (Nat.le_trans hB q1.size) (hH.n q1) (hb3.n q1) (hb5.n q1) (hp.n q1)
 have hb6:=hb6.frz
 refine WL.go<|WC.rs<|WL.r (Rd.ld rfl sc3 (hb6.cell rfl))<|WL.e (Ef.ms (.al a n) (m:=N) sl91 el48 rfl rfl rfl (by omega) (by decide)) ?_
 rintro _ t6 ⟨b15,rfl,s6,ha0,n15,m15⟩
 obtain ⟨hB,hH,hb3,hb5,hb6,hp⟩:=Q6 (Nat.le_trans hB s6.size) (hH.n s6) (hb3.n s6) (hb5.n s6) (hb6.n s6) (hp.n s6)
 have ha:=Row.nils (d:=kEvent) ha0 (Nat.zero_le _) (by simp only [maxLen]; omega)
 have hr:=Row.nil t6 (.proc a n) B 235 (kHA (pollK pp mb who x s N (.slice (some ⟨b15,0,none⟩) N N)))
 refine WL.e (Ef.al (.loc 7) zr91) ?_
 rintro _ t7 ⟨b7,rfl,s7,hb7,nb7,mb7⟩
 obtain ⟨hB,hH,ha,hb3,hb5,hb6,hp,hr⟩:=Q8 (Nat.le_trans hB s7.size) (hH.n s7) (ha.n s7) (hb3.n s7) (hb5.n s7) (hb6.n s7) (hp.n s7) (hr.n s7)
 refine WL.e0 (Ef.T [.slice (some ⟨b15,0,none⟩) N N] rfl rfl hb7 sz91 (.inl nb7)) ?_
 rintro _ t8 ⟨u8,s8,hb7'⟩
 have hb7:Bk t8 b7 [.slice (some ⟨b15,0,none⟩) N N] _ _:=hb7'
 clear hb7'
 obtain ⟨hB,hH,ha,hb3,hb5,hb6,hp,hr⟩:=Q8 (Nat.le_trans hB s8.size) (hH.n s8) (ha.n s8) (hb3.n s8) (hb5.n s8) (hb6.n s8) (hp.n s8) (hr.n s8)
 have q2:=TW.tagv_step t8 (v:=(.slice (some ⟨b7,0,none⟩) 0 0)) (g' := .fz) (fun b hb=>by simp [Value.ownBlock] at hb; subst hb; exact hb7.2)
 refine WL.tag (.slice (some ⟨b7,0,none⟩) 0 0) .fz (.inl fun b hb=>by simp [Value.ownBlock] at hb; subst hb; exact nb7) ?_
 obtain ⟨hB,hH,ha,hb3,hb5,hb6,hp,hr⟩:=Q8 (Nat.le_trans hB q2.size) (hH.n q2) (ha.n q2) (hb3.n q2) (hb5.n q2) (hb6.n q2) (hp.n q2) (hr.n q2)
 have hb7:=hb7.frz
 refine WL.go<|WC.seq<|WC.rs<|WL.r (Rd.ld rfl sc3 (hb6.cell rfl))<|WL.m rfl<|WL.go<|WC.block<|WC.loop (σ:=Nat) (fun k t' => B ≤ t'.w.heap.size ∧ IsHall t' b h ∧ Bk t' b3 [.pointer (some ⟨pp,0,none⟩)] 190 (.fz) ∧ Bk t' b5 [.int .i64 (who:Int)] 3 (.fz) ∧ Bk t' b6 [.int .i64 (N:Int)] 3 (.fz) ∧ Row t' (.al a n) 0 48 (kSl kEvent) (.slice (some ⟨b15,0,none⟩) N N) (List.replicate N []) ∧ Bk t' b7 [.slice (some ⟨b15,0,none⟩) N N] 91 (.fz) ∧ k ≤ N ∧ (∃ av,Bk t' pp (hC p av ev) 215 (.obj a n) ∧ Row t' (.proc a n) B 235 (kHA (pollK pp mb who x s N (.slice (some ⟨b15,0,none⟩) N N))) av ([] ++ (List.range k).map HAct.lock)) ∧ True) (fun k=>[(3,.pointer (some ⟨b3,0,none⟩)),(5,.pointer (some ⟨b5,0,none⟩)),(6,.pointer (some ⟨b6,0,none⟩)),(7,.pointer (some ⟨b7,0,none⟩)),(16,.int .i64 (N:Int)),(17,.int .i64 (k:Int))]) (fun k=>N - k) 0 ⟨rfl,rfl,rfl,rfl,rfl,rfl,trivial⟩ ⟨hB,hH,hb3,hb5,hb6,ha,hb7,Nat.zero_le _,⟨_,hp,by simpa using hr⟩,trivial⟩ ?_
 rintro k t9 ⟨hB,hH,hb3,hb5,hb6,ha,hb7,hk,hI,_⟩
 obtain ⟨av1,hp,hr⟩:=hI
 refine WC.rs<|WL.f (Fr.bo rfl rfl BO.lt)<|WL.go<|WC.seq ?_
 refine WC.condS rfl (fun hcond18=>?_) (fun hcond18=>?_)
 ·have hlt:k < N:=by have:=dcT hcond18; omega
  refine WC.skip<|WQ.n<|WC.seq<|WC.block<|WC.rs<|WL.m rfl<|WL.a rfl<|WL.go<|WC.rg<|WL.r (Rd.ld rfl sc190 (hb3.cell rfl)) ?_
  refine WL.r (Rd.ld rfl sc3 (hb5.cell rfl))<|WL.m rfl<|WL.e (Ef.call rfl en115 (heed_locked (K:=(pollK pp mb who x s N (.slice (some ⟨b15,0,none⟩) N N))) _ hp hr hB (by simp only [List.length_append,List.length_cons,List.length_nil,List.length_map,List.length_range]; omega)) (fun _ h=>h)) ?_
  rintro _ t10 ⟨s10,av4,hp,hr⟩
  obtain ⟨hB,hH,ha,hb3,hb5,hb6,hb7⟩:=Q7 (Nat.le_trans hB s10.size) (hH.n s10) (ha.n s10) (hb3.n s10) (hb5.n s10) (hb6.n s10) (hb7.n s10)
  exact WL.nil<|WQ.bn<|WQ.n<|WC.rg<|WL.f (Fr.bo rfl rfl (BO.add (by omega) (by omega)))<|WL.m rfl<|WL.nil<|WQ.again (k + 1) ⟨rfl,rfl,rfl,rfl,rfl,rfl,trivial⟩ ⟨hB,hH,hb3,hb5,hb6,ha,hb7,hlt,⟨_,hp,by rw [map_succ] at hr; exact hr⟩,trivial⟩ (by omega)
 have hge:N = k:=by have:=dcF hcond18; omega
 subst hge
 refine WC.exit<|WQ.tx<|WQ.tx<|WQ.bx<|WQ.n<|WC.rs<|WL.r (Rd.ld rfl sc190 (hb3.cell rfl))<|WL.r (Rd.ld rfl sc3 (hb5.cell rfl))<|WL.e (Ef.call rfl en116 (heed_lookA (K:=(pollK pp mb who x s N (.slice (some ⟨b15,0,none⟩) N N))) _ hp hr hB (by simp only [List.length_append,List.length_cons,List.length_nil,List.length_map,List.length_range]; omega)) (fun _ h=>h)) ?_
 rintro _ t11 ⟨s11,av5,hp,hr⟩
 obtain ⟨hB,hH,ha,hb3,hb5,hb6,hb7⟩:=Q7 (Nat.le_trans hB s11.size) (hH.n s11) (ha.n s11) (hb3.n s11) (hb5.n s11) (hb6.n s11) (hb7.n s11)
 refine WL.go<|WC.seq<|WC.rs<|WL.r (Rd.ld rfl sc3 (hb6.cell rfl))<|WL.m rfl<|WL.go<|WC.block<|WC.loop (σ:=Nat) (fun k t' => B ≤ t'.w.heap.size ∧ IsHall t' b h ∧ Bk t' b3 [.pointer (some ⟨pp,0,none⟩)] 190 (.fz) ∧ Bk t' b5 [.int .i64 (who:Int)] 3 (.fz) ∧ Bk t' b6 [.int .i64 (N:Int)] 3 (.fz) ∧ Row t' (.al a n) 0 48 (kSl kEvent) (.slice (some ⟨b15,0,none⟩) N N) (List.replicate N []) ∧ Bk t' b7 [.slice (some ⟨b15,0,none⟩) N N] 91 (.fz) ∧ k ≤ N ∧ (∃ av,Bk t' pp (hC p av ev) 215 (.obj a n) ∧ Row t' (.proc a n) B 235 (kHA (pollK pp mb who x s N (.slice (some ⟨b15,0,none⟩) N N))) av (((List.range N).map HAct.lock ++ [HAct.look]) ++ (List.range k).map HAct.drain)) ∧ True) (fun k=>[(3,.pointer (some ⟨b3,0,none⟩)),(5,.pointer (some ⟨b5,0,none⟩)),(6,.pointer (some ⟨b6,0,none⟩)),(7,.pointer (some ⟨b7,0,none⟩)),(28,.int .i64 (N:Int)),(29,.int .i64 (k:Int))]) (fun k=>N - k) 0 ⟨rfl,rfl,rfl,rfl,rfl,rfl,trivial⟩ ⟨hB,hH,hb3,hb5,hb6,ha,hb7,Nat.zero_le _,⟨_,hp,by simpa using hr⟩,trivial⟩ ?_
 rintro k t12 ⟨hB,hH,hb3,hb5,hb6,ha,hb7,hk,hI,_⟩
 obtain ⟨av2,hp,hr⟩:=hI
 refine WC.rs<|WL.f (Fr.bo rfl rfl BO.lt)<|WL.go<|WC.seq ?_
 refine WC.condS rfl (fun hcond30=>?_) (fun hcond30=>?_)
 ·have hlt:k < N:=by have:=dcT hcond30; omega
  refine WC.skip<|WQ.n<|WC.seq<|WC.block<|WC.rs<|WL.m rfl<|WL.e (Ef.al (.loc 9) zr3) ?_
  rintro _ t13 ⟨b9,rfl,s13,hb9,nb9,mb9⟩
  obtain ⟨hB,hH,ha,hb3,hb5,hb6,hb7,hp,hr⟩:=Q9 (Nat.le_trans hB s13.size) (hH.n s13) (ha.n s13) (hb3.n s13) (hb5.n s13) (hb6.n s13) (hb7.n s13) (hp.n s13) (hr.n s13)
  refine WL.e0 (Ef.T [.int .i64 (k:Int)] rfl rfl hb9 sz3 (.inl nb9)) ?_
  rintro _ t14 ⟨u14,s14,hb9'⟩
  have hb9:Bk t14 b9 [.int .i64 (k:Int)] _ _:=hb9'
  clear hb9'
  obtain ⟨hB,hH,ha,hb3,hb5,hb6,hb7,hp,hr⟩:=Q9 (Nat.le_trans hB s14.size) (hH.n s14) (ha.n s14) (hb3.n s14) (hb5.n s14) (hb6.n s14) (hb7.n s14) (hp.n s14) (hr.n s14)
  have q3:=TW.tagv_step t14 (v:=(.slice (some ⟨b9,0,none⟩) 0 0)) (g' := .fz) (fun b hb=>by simp [Value.ownBlock] at hb; subst hb; exact hb9.2)
  refine WL.tag (.slice (some ⟨b9,0,none⟩) 0 0) .fz (.inl fun b hb=>by simp [Value.ownBlock] at hb; subst hb; exact nb9) ?_
  obtain ⟨hB,hH,ha,hb3,hb5,hb6,hb7,hp,hr⟩:=Q9 (Nat.le_trans hB q3.size) (hH.n q3) (ha.n q3) (hb3.n q3) (hb5.n q3) (hb6.n q3) (hb7.n q3) (hp.n q3) (hr.n q3)
  have hb9:=hb9.frz
  refine WL.go<|WC.rg<|WL.r (Rd.ld rfl sc190 (hb3.cell rfl))<|WL.f (Fr.mf rfl)<|WL.e (Ef.call rfl en117 (heed_plainA (act:=.drain k) _ hp hr hB (by simp only [List.length_append,List.length_cons,List.length_nil,List.length_map,List.length_range]; omega) rfl (fun t2 bd s gd=>⟨bd,b5,b9,b7,b3,rfl,gd,hb5.step s id,hb9.step s id,hb7.step s id,hb3.step s id⟩)) (fun _ h=>h)) ?_
  rintro _ t15 ⟨s15,av6,hp,hr⟩
  obtain ⟨hB,hH,ha,hb3,hb5,hb6,hb7⟩:=Q7 (Nat.le_trans hB s15.size) (hH.n s15) (ha.n s15) (hb3.n s15) (hb5.n s15) (hb6.n s15) (hb7.n s15)
  exact WL.nil<|WQ.bn<|WQ.n<|WC.rg<|WL.f (Fr.bo rfl rfl (BO.add (by omega) (by omega)))<|WL.m rfl<|WL.nil<|WQ.again (k + 1) ⟨rfl,rfl,rfl,rfl,rfl,rfl,trivial⟩ ⟨hB,hH,hb3,hb5,hb6,ha,hb7,hlt,⟨_,hp,by rw [map_succ] at hr; exact hr⟩,trivial⟩ (by omega)
 have hge:N = k:=by have:=dcF hcond30; omega
 subst hge
 refine WC.exit<|WQ.tx<|WQ.tx<|WQ.bx<|WQ.n<|WC.rs<|WL.r (Rd.ld rfl sc3 (hb6.cell rfl))<|WL.m rfl<|WL.go<|WC.block ?_
 refine WC.loop (σ:=Nat) (fun k t' => B ≤ t'.w.heap.size ∧ IsHall t' b h ∧ Bk t' b3 [.pointer (some ⟨pp,0,none⟩)] 190 (.fz) ∧ Bk t' b5 [.int .i64 (who:Int)] 3 (.fz) ∧ Bk t' b6 [.int .i64 (N:Int)] 3 (.fz) ∧ Row t' (.al a n) 0 48 (kSl kEvent) (.slice (some ⟨b15,0,none⟩) N N) (List.replicate N []) ∧ Bk t' b7 [.slice (some ⟨b15,0,none⟩) N N] 91 (.fz) ∧ k ≤ N ∧ (∃ av,Bk t' pp (hC p av ev) 215 (.obj a n) ∧ Row t' (.proc a n) B 235 (kHA (pollK pp mb who x s N (.slice (some ⟨b15,0,none⟩) N N))) av (((List.range N).map HAct.lock ++ [HAct.look]) ++ (List.range N).map HAct.drain ++ (List.range k).map HAct.last)) ∧ True) (fun k=>[(3,.pointer (some ⟨b3,0,none⟩)),(5,.pointer (some ⟨b5,0,none⟩)),(6,.pointer (some ⟨b6,0,none⟩)),(7,.pointer (some ⟨b7,0,none⟩)),(36,.int .i64 (N:Int)),(37,.int .i64 (k:Int))]) (fun k=>N - k) 0 ⟨rfl,rfl,rfl,rfl,rfl,rfl,trivial⟩ ⟨hB,hH,hb3,hb5,hb6,ha,hb7,Nat.zero_le _,⟨_,hp,by simpa using hr⟩,trivial⟩ ?_
 rintro k t16 ⟨hB,hH,hb3,hb5,hb6,ha,hb7,hk,hI,_⟩
 obtain ⟨av3,hp,hr⟩:=hI
 refine WC.rs<|WL.f (Fr.bo rfl rfl BO.lt)<|WL.go<|WC.seq ?_
 refine WC.condS rfl (fun hcond38=>?_) (fun hcond38=>?_)
 ·have hlt:k < N:=by have:=dcT hcond38; omega
  refine WC.skip<|WQ.n<|WC.seq<|WC.block<|WC.rs<|WL.m rfl<|WL.e (Ef.al (.loc 10) zr3) ?_
  rintro _ t17 ⟨b10,rfl,s17,hb10,nb10,mb10⟩
  obtain ⟨hB,hH,ha,hb3,hb5,hb6,hb7,hp,hr⟩:=Q9 (Nat.le_trans hB s17.size) (hH.n s17) (ha.n s17) (hb3.n s17) (hb5.n s17) (hb6.n s17) (hb7.n s17) (hp.n s17) (hr.n s17)
  refine WL.e0 (Ef.T [.int .i64 (k:Int)] rfl rfl hb10 sz3 (.inl nb10)) ?_
  rintro _ t18 ⟨u18,s18,hb10'⟩
  have hb10:Bk t18 b10 [.int .i64 (k:Int)] _ _:=hb10'
  clear hb10'
  obtain ⟨hB,hH,ha,hb3,hb5,hb6,hb7,hp,hr⟩:=Q9 (Nat.le_trans hB s18.size) (hH.n s18) (ha.n s18) (hb3.n s18) (hb5.n s18) (hb6.n s18) (hb7.n s18) (hp.n s18) (hr.n s18)
  have q4:=TW.tagv_step t18 (v:=(.slice (some ⟨b10,0,none⟩) 0 0)) (g' := .fz) (fun b hb=>by simp [Value.ownBlock] at hb; subst hb; exact hb10.2)
  refine WL.tag (.slice (some ⟨b10,0,none⟩) 0 0) .fz (.inl fun b hb=>by simp [Value.ownBlock] at hb; subst hb; exact nb10) ?_
  obtain ⟨hB,hH,ha,hb3,hb5,hb6,hb7,hp,hr⟩:=Q9 (Nat.le_trans hB q4.size) (hH.n q4) (ha.n q4) (hb3.n q4) (hb5.n q4) (hb6.n q4) (hb7.n q4) (hp.n q4) (hr.n q4)
  have hb10:=hb10.frz
  refine WL.go<|WC.rg<|WL.r (Rd.ld rfl sc190 (hb3.cell rfl))<|WL.f (Fr.mf rfl)<|WL.e (Ef.call rfl en117 (heed_plainA (act:=.last k) _ hp hr hB (by simp only [List.length_append,List.length_cons,List.length_nil,List.length_map,List.length_range]; omega) rfl (fun t2 bd s gd=>⟨bd,b5,b10,b6,b7,b3,rfl,gd,hb5.step s id,hb10.step s id,hb6.step s id,hb7.step s id,hb3.step s id⟩)) (fun _ h=>h)) ?_
  rintro _ t19 ⟨s19,av7,hp,hr⟩
  obtain ⟨hB,hH,ha,hb3,hb5,hb6,hb7⟩:=Q7 (Nat.le_trans hB s19.size) (hH.n s19) (ha.n s19) (hb3.n s19) (hb5.n s19) (hb6.n s19) (hb7.n s19)
  exact WL.nil<|WQ.bn<|WQ.n<|WC.rg<|WL.f (Fr.bo rfl rfl (BO.add (by omega) (by omega)))<|WL.m rfl<|WL.nil<|WQ.again (k + 1) ⟨rfl,rfl,rfl,rfl,rfl,rfl,trivial⟩ ⟨hB,hH,hb3,hb5,hb6,ha,hb7,hlt,⟨_,hp,by rw [map_succ] at hr; exact hr⟩,trivial⟩ (by omega)
 have hge:N = k:=by have:=dcF hcond38; omega
 subst hge
 exact WC.exit<|WQ.tx<|WQ.tx<|WQ.bx<|WQ.end_ rfl .nil (⟨_,_,hp,hr,ha⟩)
def IsHd (t:TW) (i b mb:Nat) (p:HProc):Prop:=∃ allv av ev,Bk t b (hC p av ev) 215 (.obj i 0) ∧ Sl t (kHA (pollK b mb p.who p.op p.s p.n allv)) av p.acts ∧ Sl t kEvent ev p.events ∧ Row t (.al i 0) 0 48 (kSl kEvent) allv p.all
theorem IsHd.step {t t' : TW} {i b mb:Nat} {p:HProc} {T:Tag → Prop} (h:IsHd t i b mb p) (s:Step T t t') (h1:¬ T (.obj i 0)) (h2:¬ T (.al i 0)) (h0:¬ T .fz):IsHd t' i b mb p:=by
 obtain ⟨allv,av,ev,g1,g2,g3,g4⟩:=h
 exact ⟨allv,av,ev,g1.step s h1,g2.step s h0,g3.step s h0,g4.step s h2 h0⟩
theorem IsHd.n {t t' : TW} {i b mb:Nat} {p:HProc} {T:Tag → Prop} (h:IsHd t i b mb p) (s:Step T t t') (h1:¬ T (.obj i 0):=by first | exact id | nofun | (rintro (h | h) <;> cases h) | (rintro (h | h | h) <;> cases h)) (h2:¬ T (.al i 0):=by first | exact id | nofun | (rintro (h | h) <;> cases h) | (rintro (h | h | h) <;> cases h)) (h0:¬ T .fz:=by first | exact id | nofun | (rintro (h | h) <;> cases h) | (rintro (h | h | h) <;> cases h)):IsHd t' i b mb p:=h.step s h1 h2 h0
theorem hActs_len (x:Opr) (s n:Nat):(hActs x s n).length ≤ 3 * n + 4:=by
 unfold hActs
 split
 ·simp
 split
 ·simp only [List.length_append,List.length_map,List.length_range,List.length_cons,List.length_nil]
  omega
 split <;> simp
theorem heed_New {b mb who s N a:Nat} {x:Opr} {h:HallS} {uv:Value} (t:TW) (hH:IsHall t b h) (hN:h.cfg.stripes = (N:Int)) (hN8:N ≤ 1000) (hst:stripeOf x.user h.cfg.stripes = (s:Int)) (hus:x.user.size ≤ 1000000) (hu:Sl t kStr uv x.users) (hul:x.users.length ≤ 1000000):Cal 78 [.pointer (some ⟨b,0,none⟩),.pointer (some ⟨mb,0,none⟩),.int .i64 (who:Int),.agg (opC x uv).toArray] t (fun z=>z = .obj a 0 ∨ z = .proc a 0) (fun r t' => ∃ pp,r = .pointer (some ⟨pp,0,none⟩) ∧ t.w.heap.size ≤ pp ∧ IsHd t' a pp mb (hNewP who x s N)):=by
 have hB:t.w.heap.size ≤ t.w.heap.size:=Nat.le_refl _
 refine Cal.en Tryz.func78 rfl Tryz.ntmps78<|WC.rs<|WL.e (Ef.bx (.fz) (cs:=[.int .i64 (who:Int)]) rfl) ?_
 rintro _ t1 ⟨b6,rfl,s1,hb6,nb6,mb6⟩
 obtain ⟨hB,hH,hu⟩:=Q3 (Nat.le_trans hB s1.size) (hH.n s1) (hu.n s1)
 refine WL.e (Ef.bx (.fz) (cs:=[.int .i64 x.kind,.string x.user,.int .i64 x.id,.int .i64 x.status,.int .i64 x.prio,.int .u64 x.ttl,uv]) rfl) ?_
 rintro _ t2 ⟨b7,rfl,s2,hb7,nb7,mb7⟩
 obtain ⟨hB,hH,hb6,hu⟩:=Q4 (Nat.le_trans hB s2.size) (hH.n s2) (hb6.n s2) (hu.n s2)
 refine WL.a rfl<|WL.go<|WC.rs<|WL.f (Fr.bd (vs:=[(0,.int .i64 (-1))]) (cs:=#[.int .i64 (-1)]) rfl (fun w=>by kernel_rfl))<|WL.f (Fr.bd (vs:=[(0,.agg #[.int .i64 (-1)])]) (cs:=#[.int .i64 (-1),.slice none 0 0,.int .i64 0,.int .u64 0,.int .u64 0,.bool false,.int .i64 0,.slice none 0 0,.slice none 0 0,.bool false]) rfl (fun w=>by kernel_rfl))<|WL.e (Ef.bx (.obj a 0) (cs:=[.int .i64 (-1),.slice none 0 0,.int .i64 0,.int .u64 0,.int .u64 0,.bool false,.int .i64 0,.slice none 0 0,.slice none 0 0,.bool false]) rfl) ?_
 rintro _ t3 ⟨b12,rfl,s3,hb12,nb12,mb12⟩
 obtain ⟨hB,hH,hb6,hb7,hu⟩:=Q5 (Nat.le_trans hB s3.size) (hH.n s3) (hb6.n s3) (hb7.n s3) (hu.n s3)
 refine WL.e (Ef.al (.loc 9) zr190) ?_
 rintro _ t4 ⟨b9,rfl,s4,hb9,nb9,mb9⟩
 obtain ⟨hB,hH,hb12,hb6,hb7,hu⟩:=Q6 (Nat.le_trans hB s4.size) (hH.n s4) (hb12.n s4) (hb6.n s4) (hb7.n s4) (hu.n s4)
 refine WL.e0 (Ef.T [.pointer (some ⟨b12,0,none⟩)] rfl rfl hb9 sz190 (.inl nb9)) ?_
 rintro _ t5 ⟨u5,s5,hb9'⟩
 have hb9:Bk t5 b9 [.pointer (some ⟨b12,0,none⟩)] _ _:=hb9'
 clear hb9'
 obtain ⟨hB,hH,hb12,hb6,hb7,hu⟩:=Q6 (Nat.le_trans hB s5.size) (hH.n s5) (hb12.n s5) (hb6.n s5) (hb7.n s5) (hu.n s5)
 have q1:=TW.tagv_step t5 (v:=(.slice (some ⟨b9,0,none⟩) 0 0)) (g' := .fz) (fun b hb=>by simp [Value.ownBlock] at hb; subst hb; exact hb9.2)
 refine WL.tag (.slice (some ⟨b9,0,none⟩) 0 0) .fz (.inl fun b hb=>by simp [Value.ownBlock] at hb; subst hb; exact nb9) ?_
 obtain ⟨hB,hH,hb12,hb6,hb7,hu⟩:=Q6 (Nat.le_trans hB q1.size) (hH.n q1) (hb12.n q1) (hb6.n q1) (hb7.n q1) (hu.n q1)
 have hb9:=hb9.frz
 refine WL.go<|WC.seq<|WC.block<|WC.rs<|WL.r (Rd.la rfl ag56 (hb7.at (vs:=[.int .i64 x.kind,.string x.user,.int .i64 x.id,.int .i64 x.status,.int .i64 x.prio,.int .u64 x.ttl,uv]) rfl))<|WL.e (Ef.call rfl en92 (model_Bad x uv _ hu hul) (fun _ h=>h.elim)) ?_
 rintro _ t6 ⟨s6,rfl⟩
 obtain ⟨hB,hH,hb12,hb6,hb7,hb9⟩:=Q6 (Nat.le_trans hB s6.size) (hH.n s6) (hb12.n s6) (hb6.n s6) (hb7.n s6) (hb9.n s6)
 refine WL.a rfl<|WL.go ?_
 refine WC.condS rfl (fun hcond19=>?_) (fun hcond19=>?_)
 ·have hbad:badOp x = true:=hcond19
  refine WC.rg<|WL.r (Rd.ld rfl sc190 (hb9.cell rfl))<|WL.f (Fr.mf rfl) ?_
  have hp:Bk _ b12 (hC (hNewP who x s N) (.slice none 0 0) (.slice none 0 0)) 215 (.obj a 0):=hb12
  have hr:=Row.nil t6 (.proc a 0) t.w.heap.size 235 (kHA (pollK b12 mb who x s N (.slice none 0 0)))
  refine WL.e (Ef.call rfl en95 (heed_add (act:=.bad) _ hp hr hB (by simp) ⟨b9,rfl,hb9⟩ rfl) (fun _ h=>h)) ?_
  rintro _ t7 ⟨s7,av1,hp,hr⟩
  obtain ⟨hB,hb9⟩:=Q2 (Nat.le_trans hB s7.size) (hb9.n s7)
  refine WL.nil<|WQ.bn<|WQ.n<|WC.rs<|WL.r (Rd.ld rfl sc190 (hb9.cell rfl))<|WL.a rfl<|WL.go<|WC.ret ?_
  have q0:=TW.tagv_step t7 (v:=av1) (g' := .fz) hr.tags
  have hp:=hp.n q0
  refine WQ.tag av1 .fz (.inl hr.base) ?_
  have hf:=hr.freeze nofun
  exact WQ.ret rfl (.tmp rfl .nil) (by
     have e1:(hNewP who x s N).acts = [] ++ [.bad]:=by simp only [hNewP,hActs,if_pos hbad]; rfl
     have e2:(hNewP who x s N).all = []:=by simp [hNewP,hbad]
     exact ⟨_,rfl,nb12,.slice none 0 0,_,_,hp,by rw [e1]; exact hf,Sl.nil _ _ _ _,by rw [e2]; exact Row.nil _ _ _ _ _⟩)
 have hbad:badOp x = false:=hcond19
 refine WC.rs<|WL.q 0 rfl fa56_0<|WL.r (Rd.ld rfl sc3 (hb7.cell rfl))<|WL.f (Fr.bo rfl rfl BO.eq)<|WL.a rfl<|WL.go ?_
 refine WC.condS rfl (fun hcond25=>?_) (fun hcond25=>?_)
 ·have hk8:=dcT hcond25
  refine WC.rg<|WL.r (Rd.ld rfl sc190 (hb9.cell rfl))<|WL.m rfl<|WL.r (Rd.ld rfl sc3 (hb6.cell rfl)) ?_
  have hp:Bk _ b12 (hC (hNewP who x s N) (.slice none 0 0) (.slice none 0 0)) 215 (.obj a 0):=hb12
  refine WL.e (Ef.call rfl en97 (heed_poll (mb:=mb) (x:=x) (s:=s) _ hp hB hH hN hN8) (fun _ h=>h)) ?_
  rintro _ t8 ⟨s8,av2,allv,hp,hr,hall⟩
  obtain ⟨hB,hb9⟩:=Q2 (Nat.le_trans hB s8.size) (hb9.n s8)
  refine WL.nil<|WQ.bn<|WQ.n<|WC.rs<|WL.r (Rd.ld rfl sc190 (hb9.cell rfl))<|WL.a rfl<|WL.go<|WC.ret ?_
  have q0:=TW.tagv_step t8 (v:=av2) (g' := .fz) hr.tags
  have hp:=hp.n q0
  refine WQ.tag av2 .fz (.inl hr.base) ?_
  have hf:=hr.freeze nofun
  have hall:=hall.n q0
  exact WQ.ret rfl (.tmp rfl .nil) (by
     have e1:(hNewP who x s N).acts = (List.range N).map HAct.lock ++ [HAct.look] ++ (List.range N).map HAct.drain ++ (List.range N).map HAct.last:=by simp only [hNewP,hActs,hbad,hk8]; rfl
     have e2:(hNewP who x s N).all = List.replicate N []:=by simp [hNewP,hbad,hk8]
     exact ⟨_,rfl,nb12,allv,_,_,hp,by rw [e1]; exact hf,Sl.nil _ _ _ _,by rw [e2]; exact hall⟩)
 have hk8:=dcF hcond25
 refine WC.rs<|WL.q 0 rfl fa56_0<|WL.r (Rd.ld rfl sc3 (hb7.cell rfl))<|WL.f (Fr.bo rfl rfl BO.eq)<|WL.a rfl<|WL.go ?_
 refine WC.condS rfl (fun hcond33=>?_) (fun hcond33=>?_)
 ·have hk9:=dcT hcond33
  refine WC.rg<|WL.r (Rd.ld rfl sc190 (hb9.cell rfl))<|WL.f (Fr.mf rfl) ?_
  have hp:Bk _ b12 (hC (hNewP who x s N) (.slice none 0 0) (.slice none 0 0)) 215 (.obj a 0):=hb12
  have hr:=Row.nil t6 (.proc a 0) t.w.heap.size 235 (kHA (pollK b12 mb who x s N (.slice none 0 0)))
  refine WL.e (Ef.call rfl en95 (heed_add (act:=.shut) _ hp hr hB (by simp) ⟨b6,b9,rfl,hb6,hb9⟩ rfl) (fun _ h=>h)) ?_
  rintro _ t9 ⟨s9,av3,hp,hr⟩
  obtain ⟨hB,hb9⟩:=Q2 (Nat.le_trans hB s9.size) (hb9.n s9)
  refine WL.nil<|WQ.bn<|WQ.n<|WC.rs<|WL.r (Rd.ld rfl sc190 (hb9.cell rfl))<|WL.a rfl<|WL.go<|WC.ret ?_
  have q0:=TW.tagv_step t9 (v:=av3) (g' := .fz) hr.tags
  have hp:=hp.n q0
  refine WQ.tag av3 .fz (.inl hr.base) ?_
  have hf:=hr.freeze nofun
  exact WQ.ret rfl (.tmp rfl .nil) (by
     have e1:(hNewP who x s N).acts = [] ++ [.shut]:=by simp only [hNewP,hActs]; rw [if_neg (by simp [hbad]),if_neg hk8,if_pos hk9]; rfl
     have e2:(hNewP who x s N).all = []:=by simp [hNewP,hk8]
     exact ⟨_,rfl,nb12,.slice none 0 0,_,_,hp,by rw [e1]; exact hf,Sl.nil _ _ _ _,by rw [e2]; exact Row.nil _ _ _ _ _⟩)
 have hk9:=dcF hcond33
 refine WC.rg<|WL.r (Rd.ld rfl sc190 (hb9.cell rfl))<|WL.m rfl<|WL.m rfl<|WL.r (Rd.ld rfl sc3 (hb6.cell rfl))<|WL.r (Rd.la rfl ag56 (hb7.at (vs:=[.int .i64 x.kind,.string x.user,.int .i64 x.id,.int .i64 x.status,.int .i64 x.prio,.int .u64 x.ttl,uv]) rfl)) ?_
 have hp:Bk _ b12 (hC (hNewP who x s N) (.slice none 0 0) (.slice none 0 0)) 215 (.obj a 0):=hb12
 have hr:=Row.nil t6 (.proc a 0) t.w.heap.size 235 (kHA (pollK b12 mb who x s N (.slice none 0 0)))
 refine WL.e (Ef.call rfl en100 (heed_watchA (K:=(pollK b12 mb who x s N (.slice none 0 0))) _ hp hr hB (by simp) hH hst hus (by omega)) (fun _ h=>h)) ?_
 rintro _ t10 ⟨s10,av4,hp,hr⟩
 obtain ⟨hB,hb9⟩:=Q2 (Nat.le_trans hB s10.size) (hb9.n s10)
 refine WL.nil<|WQ.bn<|WQ.n<|WC.rs<|WL.r (Rd.ld rfl sc190 (hb9.cell rfl))<|WL.a rfl<|WL.go<|WC.ret ?_
 have q0:=TW.tagv_step t10 (v:=av4) (g' := .fz) hr.tags
 have hp:=hp.n q0
 refine WQ.tag av4 .fz (.inl hr.base) ?_
 have hf:=hr.freeze nofun
 exact WQ.ret rfl (.tmp rfl .nil) (by
    have e1:(hNewP who x s N).acts = [] ++ [.lock s] ++ [.look] ++ [.watch] ++ [.unlock s]:=by simp only [hNewP,hActs]; rw [if_neg (by simp [hbad]),if_neg hk8,if_neg hk9]; rfl
    have e2:(hNewP who x s N).all = []:=by simp [hNewP,hk8]
    exact ⟨_,rfl,nb12,.slice none 0 0,_,_,hp,by rw [e1]; exact hf,Sl.nil _ _ _ _,by rw [e2]; exact Row.nil _ _ _ _ _⟩)
theorem hAct_same (h:HallS) (m:MineS) (p:HProc) (a:HAct):(hAct h m p a).2.2.1.acts = p.acts ∧ (hAct h m p a).2.2.1.who = p.who ∧ (hAct h m p a).2.2.1.op = p.op ∧ (hAct h m p a).2.2.1.s = p.s ∧ (hAct h m p a).2.2.1.n = p.n ∧ (hAct h m p a).2.2.1.at_ = p.at_ ∧ (hAct h m p a).2.2.1.placed = p.placed:=by
 cases a
 case watch=>
  unfold hAct
  simp only
  split
  ·exact ⟨rfl,rfl,rfl,rfl,rfl,rfl,rfl⟩
  ·split <;> exact ⟨rfl,rfl,rfl,rfl,rfl,rfl,rfl⟩
 all_goals exact ⟨rfl,rfl,rfl,rfl,rfl,rfl,rfl⟩
theorem hdStep_do {h:HallS} {m:MineS} {p:HProc} {pos:Int} {a:HAct} (h1:hdEnabled h p = true) (h2:p.acts[p.at_]? = some a):hdStep h m p pos = ((hAct h m p a).1,(hAct h m p a).2.1,{ (hAct h m p a).2.2.1 with placed:=if (hAct h m p a).2.2.2 = true then pos else (hAct h m p a).2.2.1.placed,at_:=p.at_ + 1 }):=by
 unfold hdStep
 rw [if_neg (by simp [h1]),h2]
theorem heed_Done {i b1 mb:Nat} {p:HProc} (t:TW) (hD:IsHd t i b1 mb p):Cal 258 [.pointer (some ⟨b1,0,none⟩)] t No (fun r t' => r = .bool (hdDone p)):=by
 obtain ⟨allv,av,ev,hp,hacts,he,hr⟩:=hD
 obtain ⟨Ac,cc,rfl,_⟩:=hacts.form
 refine Cal.en Tryz.func258 rfl Tryz.ntmps258<|WC.rs<|WL.a rfl<|WL.go<|WC.drs (fun w=>At w b1 2 [.int .i64 (p.at_:Int)] ∧ True) .body (⟨hp.at rfl,trivial⟩) ?_
 have hp:=hp.n (TW.drew_step _)
 refine DL.m 0 rfl rfl<|DL.fx 1 rfl (Fr.ncP rfl)<|DL.fx 2 rfl (Fr.q 2 rfl fa215_2)<|DL.m 4 rfl rfl<|DL.fx 5 rfl (Fr.ncP rfl)<|DL.fx 6 rfl (Fr.q 1 rfl fa215_1)<|DL.hx 3 rfl (fun w hw=>Rd.ld rfl sc3 (hw.1.one rfl))<|DL.rx 7 rfl (Rd.ld rfl sc213 (hp.cell rfl))<|DL.fx 8 rfl (Fr.ln rfl Tryz.underlying213)<|DL.fx 9 rfl (Fr.bo rfl rfl BO.ge) ?_
 exact DL.fx 10 rfl (Fr.as rfl)<|DL.D<|WQ.n<|WC.ret<|WQ.ret rfl (.tmp rfl .nil) (by show Value.bool _ = _; unfold hdDone; congr 1; rw [decide_eq_decide]; omega)
theorem heed_Placed {i b1 mb:Nat} {p:HProc} (t:TW) (hD:IsHd t i b1 mb p):Cal 260 [.pointer (some ⟨b1,0,none⟩)] t No (fun r t' => r = .int .i64 p.placed):=by
 obtain ⟨allv,av,ev,hp,hacts,he,hr⟩:=hD
 obtain ⟨Ac,cc,rfl,_⟩:=hacts.form
 refine Cal.en Tryz.func260 rfl Tryz.ntmps260<|WC.rs<|WL.a rfl<|WL.go<|WC.rs<|WL.m rfl<|WL.f (Fr.ncP rfl)<|WL.q 0 rfl fa215_0<|WL.q 0 rfl fa212_0<|WL.r (Rd.ld rfl sc3 (hp.cell rfl)) ?_
 exact WL.a rfl<|WL.go<|WC.ret<|WQ.ret rfl (.tmp rfl .nil) (rfl)
theorem heed_Waits {i b1 mb:Nat} {p:HProc} (t:TW) (hD:IsHd t i b1 mb p) (hl:p.acts.length ≤ 900000):Cal 263 [.pointer (some ⟨b1,0,none⟩)] t No (fun r t' => r = .int .i64 (hdWaits p)):=by
 have hD0:=hD
 obtain ⟨allv,av,ev,hp,hacts,he,hr⟩:=hD
 obtain ⟨Ac,cc,rfl,_⟩:=hacts.form
 refine Cal.en Tryz.func263 rfl Tryz.ntmps263<|WC.rs<|WL.a rfl<|WL.go<|WC.seq<|WC.rs<|WL.m rfl<|WL.e (Ef.call rfl en258 (heed_Done _ hD0) (fun _ h=>h.elim)) ?_
 rintro _ t1 ⟨s1,rfl⟩
 obtain ⟨hacts,hp⟩:=Q2 (hacts.n s1) (hp.n s1)
 refine WL.go ?_
 refine WC.condS rfl (fun hcond4=>?_) (fun hcond4=>?_)
 ·have hdn:hdDone p = true:=hcond4
  refine WC.rs<|WL.a rfl<|WL.go<|WC.ret<|WQ.tr ?_
  exact WQ.ret rfl (.tmp rfl .nil) (by unfold hdWaits; rw [List.getElem?_eq_none (by unfold hdDone at hdn; simp at hdn; omega)]; rfl)
 have hdn:hdDone p = false:=hcond4
 have hlt:p.at_ < p.acts.length:=by unfold hdDone at hdn; simp at hdn; omega
 refine WC.skip<|WQ.n<|WC.drs (fun w=>At w b1 1 [.slice Ac p.acts.length cc] ∧ True) .body (⟨hp.at rfl,trivial⟩) ?_
 obtain ⟨hacts,hp⟩:=Q2 (hacts.n (TW.drew_step _)) (hp.n (TW.drew_step _))
 refine DL.m 0 rfl rfl<|DL.fx 1 rfl (Fr.ncP rfl)<|DL.fx 2 rfl (Fr.q 1 rfl fa215_1)<|DL.m 4 rfl rfl<|DL.fx 5 rfl (Fr.ncP rfl)<|DL.fx 6 rfl (Fr.q 2 rfl fa215_2)<|DL.hx 3 rfl (fun w hw=>Rd.ld rfl sc213 (hw.1.one rfl))<|DL.rx 7 rfl (Rd.ld rfl sc3 (hp.cell rfl)) ?_
 obtain ⟨bq,oq,capq,cq,eq1,hcpq,hRq,hAq,hlbq,hfzq⟩:=hacts.at_ (List.getElem?_eq_getElem hlt)
 obtain ⟨rfl,_,rfl⟩:=Value.slice.inj eq1
 obtain ⟨fv,rfl,hA⟩:=hRq
 refine DL.fx 8 rfl (Fr.ix rfl rfl sl213 (by omega) (by omega) (o' := oq + p.at_ * 2) (by simp))<|DL.fx 9 rfl (Fr.fa rfl fa235_0)<|DL.rx 10 rfl (Rd.ld rfl sc3 (hAq.one rfl))<|DL.fx 11 rfl (Fr.as rfl)<|DL.D<|WQ.n<|WC.ret ?_
 exact WQ.ret rfl (.tmp rfl .nil) (by unfold hdWaits; rw [List.getElem?_eq_getElem hlt]; rfl)
theorem heed_Enabled {i b b1 mb:Nat} {p:HProc} {h:HallS} (t:TW) (hD:IsHd t i b1 mb p) (hH:IsHall t b h) (hl:p.acts.length ≤ 900000) (hs:∀ s:Nat,hdWaits p = (s:Int) → s < h.strs.length) (hs8:h.strs.length ≤ 8):Cal 259 [.pointer (some ⟨b1,0,none⟩),.pointer (some ⟨b,0,none⟩)] t No (fun r t' => r = .bool (hdEnabled h p)):=by
 refine Cal.en Tryz.func259 rfl Tryz.ntmps259<|WC.rs<|WL.a rfl<|WL.go<|WC.rs<|WL.m rfl<|WL.e (Ef.call rfl en258 (heed_Done _ hD) (fun _ h=>h.elim)) ?_
 rintro _ t1 ⟨s1,rfl⟩
 obtain ⟨hD,hH⟩:=Q2 (hD.n s1) (hH.n s1)
 refine WL.f (Fr.un_not rfl)<|WL.m rfl ?_
 refine WL.pin 8 rfl (fun hp8=>?_) (fun hp8=>?_)
 ·refine WL.m rfl<|WL.e (Ef.call rfl en263 (heed_Waits _ hD hl) (fun _ h=>h.elim)) ?_
  rintro _ t2 ⟨s2,rfl⟩
  obtain ⟨hD,hH⟩:=Q2 (hD.n s2) (hH.n s2)
  refine WL.f (Fr.bo rfl rfl BO.lt)<|WL.m rfl ?_
  refine WL.pin 12 rfl (fun hp12=>?_) (fun hp12=>?_)
  ·exact WL.s<|WL.s<|WL.s<|WL.s<|WL.f (Fr.pkT rfl rfl)<|WL.f (Fr.pkT rfl rfl)<|WL.a rfl<|WL.go<|WC.ret<|WQ.ret rfl (.tmp rfl .nil) (by have e:hdDone p = false:=by { simpa using hp8 }; unfold hdEnabled; rw [e,show decide (hdWaits p < 0) = true from hp12]; rfl)
  have hw0:¬ hdWaits p < 0:=dcF hp12
  obtain ⟨s,hsw⟩:=Int.eq_ofNat_of_zero_le (by omega:0 ≤ hdWaits p)
  refine WL.m rfl<|WL.m rfl<|WL.e (Ef.call rfl en263 (heed_Waits _ hD hl) (fun _ h=>h.elim)) ?_
  rintro _ t3 ⟨s3,rfl⟩
  have hH:=hH.n s3
  refine WL.re 15 (v' := .int .i64 (s:Int)) rfl (congrArg (Value.int .i64) hsw)<|WL.e (Ef.call rfl en102 (hall_Free _ hH (hs s hsw) hs8) (fun _ h=>h.elim)) ?_
  rintro _ t4 ⟨s4,rfl⟩
  exact WL.f (Fr.pkF rfl rfl)<|WL.f (Fr.pkT rfl rfl)<|WL.a rfl<|WL.go<|WC.ret<|WQ.ret rfl (.tmp rfl .nil) (by have e:hdDone p = false:=by { simpa using hp8 }; unfold hdEnabled; rw [e,show decide (hdWaits p < 0) = false from hp12,hsw]; rfl)
 refine WL.s<|WL.s<|WL.s<|WL.s<|WL.s<|WL.s<|WL.s<|WL.s<|WL.s<|WL.f (Fr.pkF rfl rfl) ?_
 exact WL.a rfl<|WL.go<|WC.ret<|WQ.ret rfl (.tmp rfl .nil) (by have e:hdDone p = true:=by { simpa using hp8 }; unfold hdEnabled; rw [e]; rfl)
theorem heed_Reply {i b1 mb:Nat} {p:HProc} (t:TW) (hD:IsHd t i b1 mb p):Cal 261 [.pointer (some ⟨b1,0,none⟩)] t No (fun r t' => ∃ vv ev,r = .agg (replyC (hdReply p) vv ev).toArray ∧ Sl t' kPres vv (hdReply p).values ∧ Sl t' kEvent ev (hdReply p).events):=by
 have hD0:=hD
 obtain ⟨allv,av,ev,hp,hacts,he,hr⟩:=hD
 obtain ⟨Ac,cc,rfl,_⟩:=hacts.form
 refine Cal.en Tryz.func261 rfl Tryz.ntmps261<|WC.rs<|WL.e (Ef.al (.loc 2) zr59) ?_
 rintro _ t1 ⟨b2,rfl,s1,hb2,nb2,mb2⟩
 obtain ⟨hD0,he,hp⟩:=Q3 (hD0.n s1) (he.n s1) (hp.n s1)
 refine WL.go<|WC.seq<|WC.rs<|WL.m rfl<|WL.e (Ef.call rfl en258 (heed_Done _ hD0) (fun _ h=>h.elim)) ?_
 rintro _ t2 ⟨s2,rfl⟩
 obtain ⟨hb2,he,hp⟩:=Q3 (hb2.n s2) (he.n s2) (hp.n s2)
 refine WL.f (Fr.un_not rfl)<|WL.go ?_
 refine WC.condS rfl (fun hcond5=>?_) (fun hcond5=>?_)
 ·refine WC.rs<|WL.f (Fr.bd (vs:=[]) (cs:=#[.int .i64 0,.slice none 0 0,.slice none 0 0,.bool false]) rfl (fun w=>by kernel_rfl))<|WL.e0 (Ef.T [.int .i64 0,.slice none 0 0,.slice none 0 0,.bool false] rfl rfl hb2 sz59 (.inl nb2)) ?_
  rintro _ t3 ⟨u3,s3,hb2'⟩
  have hb2:Bk t3 b2 [.int .i64 0,.slice none 0 0,.slice none 0 0,.bool false] _ _:=hb2'
  clear hb2'
  exact WL.go<|WC.ret<|WQ.tr<|WQ.ret rfl (.cell rfl (loadVar_ag ag59 rfl (hb2.at (vs:=[.int .i64 0,.slice none 0 0,.slice none 0 0,.bool false]) rfl)) .nil) (by have e:hdDone p = false:=by { simpa using hcond5 }; unfold hdReply; rw [if_neg (by simp [e])]; exact ⟨_,_,rfl,Sl.nil _ _ _ _,Sl.nil _ _ _ _⟩)
 refine WC.skip<|WQ.n<|WC.rs<|WL.m rfl<|WL.f (Fr.ncP rfl)<|WL.q 6 rfl fa215_4<|WL.r (Rd.la rfl ag59 (hp.at (vs:=[.int .i64 p.err,.slice none 0 0,ev,.bool p.lost]) rfl))<|WL.e0 (Ef.st (vs:=[.int .i64 p.err,.slice none 0 0,ev,.bool p.lost]) rfl rfl hb2 rfl (by obtain ⟨A,c,rfl,_⟩:=he.form; simp [Value.oneCell']) sz59 rfl (by simp) (.inl nb2)) ?_
 rintro _ t4 ⟨u4,s4,hb2⟩
 have he:=he.n s4
 exact WL.go<|WC.ret<|WQ.ret rfl (.cell rfl (loadVar_ag ag59 rfl (hb2.at (vs:=[.int .i64 p.err,.slice none 0 0,ev,.bool p.lost]) rfl)) .nil) (by have e:hdDone p = true:=by { simpa using hcond5 }; unfold hdReply; rw [if_pos e]; exact ⟨_,_,rfl,Sl.nil _ _ _ _,he⟩)
theorem heed_took {b1:Nat} {g:Tag} {p:HProc} {av ev:Value} (pos:Int) (t:TW) (hp:Bk t b1 (hC p av ev) 215 g):Cal 264 [.pointer (some ⟨b1,0,none⟩),.int .i64 pos] t (fun z=>z = g) (fun r t' => Bk t' b1 (hC { p with placed:=pos } av ev) 215 g):=by
 refine Cal.en Tryz.func264 rfl Tryz.ntmps264<|WC.rg<|WL.m rfl<|WL.m rfl<|WL.f (Fr.ncP rfl)<|WL.q 0 rfl fa212_0<|WL.e0 (Ef.T [.int .i64 pos] rfl rfl hp sz3 (.inr rfl)) ?_
 rintro _ t1 ⟨u1,s1,hp'⟩
 have hp:Bk t1 b1 [.int .i64 pos,av,.int .i64 (p.at_:Int),.int .u64 p.time.now,.int .u64 p.time.seq,.bool p.time.closed,.int .i64 p.err,.slice none 0 0,ev,.bool p.lost] _ _:=hp'
 clear hp'
 exact WL.nil<|WQ.end_ rfl .nil (hp)
theorem heed_Step {i b b1 mb:Nat} {p:HProc} {h:HallS} {m:MineS} (pos:Int) (t:TW) (hD:IsHd t i b1 mb p) (hH:IsHall t b h) (hM:IsMine t i mb m) (hl:p.acts.length ≤ 900000) (hs:∀ s:Nat,hdWaits p = (s:Int) → s < h.strs.length) (hs8:h.strs.length ≤ 8) (hk:∀ a,p.acts[p.at_]? = some a → hdEnabled h p = true → HOk h p a):Cal 262 [.pointer (some ⟨b1,0,none⟩),.pointer (some ⟨b,0,none⟩),.int .i64 pos] t (hT i) (fun r t' => IsHall t' b (hdStep h m p pos).1 ∧ IsMine t' i mb (hdStep h m p pos).2.1 ∧ IsHd t' i b1 mb (hdStep h m p pos).2.2):=by
 have hD0:=hD
 obtain ⟨allv,av,ev,hp,hacts,he,hr⟩:=hD
 obtain ⟨Ac,cc,rfl,_⟩:=hacts.form
 refine Cal.en Tryz.func262 rfl Tryz.ntmps262<|WC.seq<|WC.rs<|WL.m rfl<|WL.m rfl<|WL.e (Ef.call rfl en259 (heed_Enabled _ hD0 hH hl hs hs8) (fun _ h=>h.elim)) ?_
 rintro _ t1 ⟨s1,rfl⟩
 obtain ⟨hD0,hH,hM,hacts,he,hp,hr⟩:=Q7 (hD0.n s1) (hH.n s1) (hM.n s1) (hacts.n s1) (he.n s1) (hp.n s1) (hr.n s1)
 refine WL.f (Fr.un_not rfl)<|WL.go ?_
 refine WC.condS rfl (fun hcond9=>?_) (fun hcond9=>?_)
 ·exact WC.ret<|WQ.tr<|WQ.ret rfl .nil (by have e:hdEnabled h p = false:=by { simpa using hcond9 }; unfold hdStep; rw [if_pos e]; exact ⟨hH,hM,hD0⟩)
 refine WC.skip<|WQ.n ?_
 have hen:hdEnabled h p = true:=by simpa using hcond9
 have hlt:p.at_ < p.acts.length:=by unfold hdEnabled hdDone at hen; simp at hen; omega
 have hsm:=hAct_same h m p p.acts[p.at_]
 obtain ⟨p1,hp1⟩:∃ p1,p1 = (hAct h m p p.acts[p.at_]).2.2.1:=⟨_,rfl⟩
 obtain ⟨h1,hh1⟩:∃ h1,h1 = (hAct h m p p.acts[p.at_]).1:=⟨_,rfl⟩
 obtain ⟨m1,hm1⟩:∃ m1,m1 = (hAct h m p p.acts[p.at_]).2.1:=⟨_,rfl⟩
 obtain ⟨pl,hpl⟩:∃ pl,pl = (if (hAct h m p p.acts[p.at_]).2.2.2 = true then pos else p1.placed):=⟨_,rfl⟩
 rw [← hp1] at hsm
 refine WC.seqJ (σ:=Unit) (fun _ t' => Sl t' (kHA (pollK b1 mb p.who p.op p.s p.n allv)) (.slice Ac p.acts.length cc) p.acts ∧ Row t' (.al i 0) 0 48 (kSl kEvent) allv p1.all ∧ IsHall t' b h1 ∧ IsMine t' i mb m1 ∧ (∃ ev2,Bk t' b1 (hC { p1 with placed:=pl } (.slice Ac p.acts.length cc) ev2) 215 (.obj i 0) ∧ Sl t' kEvent ev2 p1.events) ∧ True) (fun _=>[(0,.pointer (some ⟨b1,0,none⟩))]) ?_ ?_
 ·refine WC.drs (fun w=>At w b1 1 [.slice Ac p.acts.length cc] ∧ True) (.then_ .body) (⟨hp.at rfl,trivial⟩) ?_
  obtain ⟨hH,hM,hacts,he,hp,hr⟩:=Q6 (hH.n (TW.drew_step _)) (hM.n (TW.drew_step _)) (hacts.n (TW.drew_step _)) (he.n (TW.drew_step _)) (hp.n (TW.drew_step _)) (hr.n (TW.drew_step _))
  refine DL.m 0 rfl rfl<|DL.fx 1 rfl (Fr.ncP rfl)<|DL.fx 2 rfl (Fr.q 1 rfl fa215_1)<|DL.m 4 rfl rfl<|DL.fx 5 rfl (Fr.ncP rfl)<|DL.fx 6 rfl (Fr.q 2 rfl fa215_2)<|DL.m 11 rfl rfl<|DL.hx 3 rfl (fun w hw=>Rd.ld rfl sc213 (hw.1.one rfl))<|DL.rx 7 rfl (Rd.ld rfl sc3 (hp.cell rfl)) ?_
  obtain ⟨bq,oq,capq,cq,eq1,hcpq,hRq,hAq,hlbq,hfzq⟩:=hacts.at_ (List.getElem?_eq_getElem hlt)
  obtain ⟨rfl,_,rfl⟩:=Value.slice.inj eq1
  obtain ⟨fv,rfl,hA⟩:=hRq
  obtain ⟨f,cap,rfl,hf,hcal⟩:=heed_do _ hp hA he hr hH hM (hk _ (List.getElem?_eq_getElem hlt) hen)
  refine DL.fx 8 rfl (Fr.ix rfl rfl sl213 (by omega) (by omega) (o' := oq + p.at_ * 2) (by simp))<|DL.fx 9 rfl (Fr.fa rfl fa235_1)<|DL.rx 10 rfl (Rd.ld rfl sc166 (hAq 1 _ rfl))<|DL.ex 12 rfl (Ef.callv (cap:=cap) rfl rfl hf hcal (fun _ h=>h)) (fun _ _ ⟨_,_,_,_,_,hb,_⟩=>⟨hb.at rfl,trivial⟩) ?_
  rintro _ t2 ⟨s2,rfl,hH,hM,ev2,hp,he,hr⟩
  have hacts:=hacts.step s2 (by rintro (h | h | h | ⟨_,h | ⟨_,h⟩⟩ | h | h | h) <;> cases h)
  rw [← hp1] at hp he hr
  rw [← hh1] at hH
  rw [← hm1] at hM
  refine DL.D<|WQ.n ?_
  refine WC.condS rfl (fun hcond22=>?_) (fun hcond22=>?_)
  ·refine WC.rg<|WL.m rfl<|WL.f (Fr.ncP rfl)<|WL.q 0 rfl fa215_0<|WL.m rfl<|WL.e (Ef.call rfl en264 (heed_took pos _ hp) (fun _ h=>by subst h; simp [hT])) ?_
   rintro _ t3 ⟨s3,hp⟩
   obtain ⟨hH,hM,hacts,he,hr⟩:=Q5 (hH.n s3) (hM.n s3) (hacts.n s3) (he.n s3) (hr.n s3)
   refine WL.nil ?_
   have hI:=Exists.intro (p:=fun ev2=>Bk t3 b1 (hC { p1 with placed:=pl } (.slice (some ⟨bq,oq,none⟩) p.acts.length cc) ev2) 215 (.obj i 0) ∧ Sl t3 kEvent ev2 p1.events) ev2 ⟨by rw [hpl,if_pos hcond22]; exact hp,he⟩
   exact WQ.join () ⟨rfl,trivial⟩ ⟨hacts,hr,hH,hM,hI,trivial⟩
  refine WC.skip ?_
  have hI:=Exists.intro (p:=fun ev2=>Bk t2 b1 (hC { p1 with placed:=pl } (.slice (some ⟨bq,oq,none⟩) p.acts.length cc) ev2) 215 (.obj i 0) ∧ Sl t2 kEvent ev2 p1.events) ev2 ⟨by rw [hpl,if_neg (by simp [hcond22])]; exact hp,he⟩
  exact WQ.join () ⟨rfl,trivial⟩ ⟨hacts,hr,hH,hM,hI,trivial⟩
 rintro _ t4 ⟨hacts,hr,hH,hM,hI,_⟩
 obtain ⟨ev2,hp,he⟩:=hI
 have hp:Bk _ b1 [.int .i64 pl,.slice Ac p.acts.length cc,.int .i64 (p1.at_:Int),.int .u64 p1.time.now,.int .u64 p1.time.seq,.bool p1.time.closed,.int .i64 p1.err,.slice none 0 0,ev2,.bool p1.lost] 215 (.obj i 0):=hp
 refine WC.rg<|WL.m rfl<|WL.f (Fr.ncP rfl)<|WL.q 2 rfl fa215_2<|WL.r (Rd.ld rfl sc3 (hp.cell rfl))<|WL.f (Fr.bo rfl rfl (BO.add (by have:=hsm.2.2.2.2.2.1; omega) (by have:=hsm.2.2.2.2.2.1; omega)))<|WL.f (Fr.ncP rfl)<|WL.q 2 rfl fa215_2<|WL.e0 (Ef.T [.int .i64 ((p1.at_:Int) + 1)] rfl rfl hp sz3 (.inr (.inr (.inr (.inr (.inr (.inr (.inr rfl)))))))) ?_
 rintro _ t5 ⟨u5,s5,hp'⟩
 have hp:Bk t5 b1 [.int .i64 pl,.slice Ac p.acts.length cc,.int .i64 ((p1.at_:Int) + 1),.int .u64 p1.time.now,.int .u64 p1.time.seq,.bool p1.time.closed,.int .i64 p1.err,.slice none 0 0,ev2,.bool p1.lost] _ _:=hp'
 clear hp'
 obtain ⟨hH,hM,hacts,he,hr⟩:=Q5 (hH.n s5) (hM.n s5) (hacts.n s5) (he.n s5) (hr.n s5)
 refine WL.nil ?_
 exact WQ.end_ rfl .nil (by
    rw [hdStep_do hen (List.getElem?_eq_getElem hlt),← hh1,← hm1,← hp1,← hpl]
    refine ⟨hH,hM,allv,.slice Ac p.acts.length cc,ev2,?_,?_,he,hr⟩
    ·have e:=hsm.2.2.2.2.2.1
     rw [← e]
     exact hp
    obtain ⟨e1,e2,e3,e4,e5,_⟩:=hsm
    simp only [e1,e2,e3,e4,e5]
    exact hacts)
abbrev encI:Int → Value:=fun i=>.int .i64 i
theorem kyI:KyT 3 encI (.int .i64):=ky_int Tryz.underlying3
def mvBook:Mv Book where
 R:=fun t x v=>∃ A c A' c', v = .agg #[.slice A x.keys.length c,.slice A' x.vals.length c'] ∧ Sl t kStr (.slice A x.keys.length c) x.keys ∧ Sl t kEntry (.slice A' x.vals.length c') x.vals
 stp:=by
  rintro T t t' x v s hT ⟨A,c,A', c', e,h1,h2⟩
  exact ⟨A,c,A', c', e,h1.step s hT,h2.step s hT⟩
theorem Mp.book {t:TW} {b:Nat} {g:Tag} {l:List (Int × Book)} (h:Mp t b g encI mvBook l) (k:Int):∃ kv vv,(Instr.lookup 207 (.map (some b)) (.int .i64 k) false).run P t.w = .ok (.agg #[kv,vv]) t.w ∧ Sl t kStr kv ((gget l k).getD noBook).keys ∧ Sl t kEntry vv ((gget l k).getD noBook).vals:=by
 obtain ⟨v,h1,h2⟩:=h.look kyI Tryz.underlying207 (Tryz.zeroValue155 t.w) k
 cases hg:gget l k with
 | none=>
  rw [hg] at h2
  subst h2
  exact ⟨_,_,h1,Sl.nil _ _ _ _,Sl.nil _ _ _ _⟩
 | some x=>
  rw [hg] at h2
  obtain ⟨A,c,A', c', e,g1,g2⟩:=h2
  subst e
  exact ⟨_,_,h1,g1,g2⟩
theorem Row.zeros {q:IntKind} {t:TW} {b N:Nat} {g:Tag} {B e:Nat} (hb:Bk t b (List.replicate N (.int q 0)) e g) (hB:B ≤ b) (hm:N ≤ maxLen):Row t g B e (kInt q) (.slice (some ⟨b,0,none⟩) N N) (List.replicate N 0):=by
 have h:=Row.of_block (d:=kInt q) (xs:=List.replicate N (0:Int)) (cap:=N) hb hB (by simp) (by simp [kInt,Kn.flat]) hm (fun i x hi=>?_)
 ·simpa using h
 obtain ⟨hlt,hx⟩:=List.getElem?_eq_some_iff.1 hi
 have hx:x = 0:=by
  rw [← hx]
  simp
 subst hx
 have hlt:i < N:=by simpa using hlt
 show seg _ 1 i = [.int q 0]
 unfold seg
 rw [List.drop_replicate,List.take_replicate,show min 1 (N - i * 1) = 1 by omega]
 rfl
abbrev rC (p:RProc) (uv sv ev mv vv:Value):List Value:=[.int .i64 (p.who:Int),uv,.int .i64 p.of_,sv,.int .i64 (p.phase:Int),.int .i64 (p.at_:Int),.int .i64 p.tries,ev,.bool p.valid,.bool p.spent,mv] ++ timeC p.time ++ [.int .i64 p.looked,.int .i64 p.placed,.int .i64 p.err,vv,.slice none 0 0,.bool false]
structure RdP (t:TW) (i:Nat) (p:RProc) (uv sv ev mv vv:Value):Prop where
 us:Sl t kStr uv p.users
 st:Sl t (kInt .i64) sv p.stripes
 ep:Row t (.ep i 0) 0 22 (kInt .u64) ev p.epochs
 mp:∃ b1,mv = .map (some b1) ∧ Mp t b1 (.mp i 0) encI mvBook p.seen
 vs:Sl t kPres vv p.values
 v0:p.values = [] → vv = .slice none 0 0
theorem RdP.step {t t' : TW} {i:Nat} {p:RProc} {uv sv ev mv vv:Value} {T:Tag → Prop} (h:RdP t i p uv sv ev mv vv) (s:Step T t t') (h1:¬ T (.ep i 0)) (h2:¬ T (.mp i 0)) (h0:¬ T .fz):RdP t' i p uv sv ev mv vv:=by
 obtain ⟨b1,e,hm⟩:=h.mp
 exact ⟨h.us.step s h0,h.st.step s h0,h.ep.step s h1 h0,⟨b1,e,hm.step s h2 h0⟩,h.vs.step s h0,h.v0⟩
theorem RdP.n {t t' : TW} {i:Nat} {p:RProc} {uv sv ev mv vv:Value} {T:Tag → Prop} (h:RdP t i p uv sv ev mv vv) (s:Step T t t') (h1:¬ T (.ep i 0):=by first | exact id | nofun | (rintro (h | h) <;> cases h) | (rintro (h | h | h) <;> cases h)) (h2:¬ T (.mp i 0):=by first | exact id | nofun | (rintro (h | h) <;> cases h) | (rintro (h | h | h) <;> cases h)) (h0:¬ T .fz:=by first | exact id | nofun | (rintro (h | h) <;> cases h) | (rintro (h | h | h) <;> cases h)):RdP t' i p uv sv ev mv vv:=h.step s h1 h2 h0
def IsRd (t:TW) (i b:Nat) (p:RProc):Prop:=∃ uv sv ev mv vv,Bk t b (rC p uv sv ev mv vv) 209 (.obj i 0) ∧ RdP t i p uv sv ev mv vv
theorem IsRd.step {t t' : TW} {i b:Nat} {p:RProc} {T:Tag → Prop} (h:IsRd t i b p) (s:Step T t t') (hg:¬ T (.obj i 0)) (h1:¬ T (.ep i 0)) (h2:¬ T (.mp i 0)) (h0:¬ T .fz):IsRd t' i b p:=by
 obtain ⟨uv,sv,ev,mv,vv,g1,g2⟩:=h
 exact ⟨uv,sv,ev,mv,vv,g1.step s hg,g2.step s h1 h2 h0⟩
theorem IsRd.n {t t' : TW} {i b:Nat} {p:RProc} {T:Tag → Prop} (h:IsRd t i b p) (s:Step T t t') (hg:¬ T (.obj i 0):=by first | exact id | nofun | (rintro (h | h) <;> cases h) | (rintro (h | h | h) <;> cases h)) (h1:¬ T (.ep i 0):=by first | exact id | nofun | (rintro (h | h) <;> cases h) | (rintro (h | h | h) <;> cases h)) (h2:¬ T (.mp i 0):=by first | exact id | nofun | (rintro (h | h) <;> cases h) | (rintro (h | h | h) <;> cases h)) (h0:¬ T .fz:=by first | exact id | nofun | (rintro (h | h) <;> cases h) | (rintro (h | h | h) <;> cases h)):IsRd t' i b p:=h.step s hg h1 h2 h0
theorem read_begin {i b1:Nat} {p:RProc} {uv sv ev mv vv:Value} (t:TW) (hp:Bk t b1 (rC p uv sv ev mv vv) 209 (.obj i 0)) (hst:Sl t (kInt .i64) sv p.stripes) (hsl:p.stripes.length ≤ 1000):Cal 94 [.pointer (some ⟨b1,0,none⟩)] t (fun z=>z = .obj i 0) (fun r t' => ∃ ev2 b2,Bk t' b1 (rC (rBegin p) uv sv ev2 (.map (some b2)) vv) 209 (.obj i 0) ∧ Row t' (.ep i 0) 0 22 (kInt .u64) ev2 (rBegin p).epochs ∧ Mp t' b2 (.mp i 0) encI mvBook []):=by
 obtain ⟨As,cs,rfl,_⟩:=hst.form
 refine Cal.en Tryz.func94 rfl Tryz.ntmps94<|WC.rs<|WL.m rfl<|WL.m rfl<|WL.f (Fr.ncP rfl)<|WL.q 4 rfl fa209_4<|WL.e0 (Ef.T [.int .i64 0] rfl rfl hp sz3 (.inr rfl)) ?_
 rintro _ t1 ⟨u1,s1,hp'⟩
 have hp:Bk t1 b1 [.int .i64 (p.who:Int),uv,.int .i64 p.of_,.slice As p.stripes.length cs,.int .i64 0,.int .i64 (p.at_:Int),.int .i64 p.tries,ev,.bool p.valid,.bool p.spent,mv,.int .u64 p.time.now,.int .u64 p.time.seq,.bool p.time.closed,.int .i64 p.looked,.int .i64 p.placed,.int .i64 p.err,vv,.slice none 0 0,.bool false] _ _:=hp'
 clear hp'
 refine WL.f (Fr.ncP rfl)<|WL.q 5 rfl fa209_5<|WL.e0 (Ef.T [.int .i64 0] rfl rfl hp sz3 (.inr rfl)) ?_
 rintro _ t2 ⟨u2,s2,hp'⟩
 have hp:Bk t2 b1 [.int .i64 (p.who:Int),uv,.int .i64 p.of_,.slice As p.stripes.length cs,.int .i64 0,.int .i64 0,.int .i64 p.tries,ev,.bool p.valid,.bool p.spent,mv,.int .u64 p.time.now,.int .u64 p.time.seq,.bool p.time.closed,.int .i64 p.looked,.int .i64 p.placed,.int .i64 p.err,vv,.slice none 0 0,.bool false] _ _:=hp'
 clear hp'
 refine WL.go<|WC.rs<|WL.m rfl<|WL.m rfl<|WL.f (Fr.ncP rfl)<|WL.q 3 rfl fa209_3<|WL.r (Rd.ld rfl sc37 (hp.cell rfl))<|WL.f (Fr.ln rfl Tryz.underlying37)<|WL.e (Ef.ms (.ep i 0) (m:=p.stripes.length) sl69 el22 rfl rfl rfl (by omega) (by decide)) ?_
 rintro _ t3 ⟨b14,rfl,s3,he0,n14,m14⟩
 have hp:=hp.n s3
 have he:=Row.zeros he0 (Nat.zero_le b14) (by simp only [maxLen]; omega)
 refine WL.f (Fr.ncP rfl)<|WL.q 7 rfl fa209_7<|WL.e0 (Ef.T [.slice (some ⟨b14,0,none⟩) p.stripes.length p.stripes.length] rfl rfl hp sz69 (.inr rfl)) ?_
 rintro _ t4 ⟨u4,s4,hp'⟩
 have hp:Bk t4 b1 [.int .i64 (p.who:Int),uv,.int .i64 p.of_,.slice As p.stripes.length cs,.int .i64 0,.int .i64 0,.int .i64 p.tries,.slice (some ⟨b14,0,none⟩) p.stripes.length p.stripes.length,.bool p.valid,.bool p.spent,mv,.int .u64 p.time.now,.int .u64 p.time.seq,.bool p.time.closed,.int .i64 p.looked,.int .i64 p.placed,.int .i64 p.err,vv,.slice none 0 0,.bool false] _ _:=hp'
 clear hp'
 have he:=he.n s4
 refine WL.go<|WC.rs<|WL.m rfl<|WL.m rfl<|WL.f (Fr.ncP rfl)<|WL.q 8 rfl fa209_8<|WL.e0 (Ef.T [.bool true] rfl rfl hp sz4 (.inr rfl)) ?_
 rintro _ t5 ⟨u5,s5,hp'⟩
 have hp:Bk t5 b1 [.int .i64 (p.who:Int),uv,.int .i64 p.of_,.slice As p.stripes.length cs,.int .i64 0,.int .i64 0,.int .i64 p.tries,.slice (some ⟨b14,0,none⟩) p.stripes.length p.stripes.length,.bool true,.bool p.spent,mv,.int .u64 p.time.now,.int .u64 p.time.seq,.bool p.time.closed,.int .i64 p.looked,.int .i64 p.placed,.int .i64 p.err,vv,.slice none 0 0,.bool false] _ _:=hp'
 clear hp'
 have he:=he.n s5
 refine WL.f (Fr.ncP rfl)<|WL.q 9 rfl fa209_9<|WL.e0 (Ef.T [.bool false] rfl rfl hp sz4 (.inr rfl)) ?_
 rintro _ t6 ⟨u6,s6,hp'⟩
 have hp:Bk t6 b1 [.int .i64 (p.who:Int),uv,.int .i64 p.of_,.slice As p.stripes.length cs,.int .i64 0,.int .i64 0,.int .i64 p.tries,.slice (some ⟨b14,0,none⟩) p.stripes.length p.stripes.length,.bool true,.bool false,mv,.int .u64 p.time.now,.int .u64 p.time.seq,.bool p.time.closed,.int .i64 p.looked,.int .i64 p.placed,.int .i64 p.err,vv,.slice none 0 0,.bool false] _ _:=hp'
 clear hp'
 have he:=he.n s6
 refine WL.go<|WC.rg<|WL.m rfl<|WL.e (Ef.mm (.mp i 0) encI mvBook) ?_
 rintro _ t7 ⟨b24,rfl,s7,hm,n24,m24⟩
 obtain ⟨he,hp⟩:=Q2 (he.n s7) (hp.n s7)
 refine WL.f (Fr.ncP rfl)<|WL.q 10 rfl fa209_10<|WL.e0 (Ef.T [.map (some b24)] rfl rfl hp sz207 (.inr rfl)) ?_
 rintro _ t8 ⟨u8,s8,hp'⟩
 have hp:Bk t8 b1 [.int .i64 (p.who:Int),uv,.int .i64 p.of_,.slice As p.stripes.length cs,.int .i64 0,.int .i64 0,.int .i64 p.tries,.slice (some ⟨b14,0,none⟩) p.stripes.length p.stripes.length,.bool true,.bool false,.map (some b24),.int .u64 p.time.now,.int .u64 p.time.seq,.bool p.time.closed,.int .i64 p.looked,.int .i64 p.placed,.int .i64 p.err,vv,.slice none 0 0,.bool false] _ _:=hp'
 clear hp'
 obtain ⟨he,hm⟩:=Q2 (he.n s8) (hm.n s8)
 exact WL.nil<|WQ.end_ rfl .nil (⟨_,b24,hp,he,hm⟩)
theorem read_Done {i b1:Nat} {p:RProc} {uv sv ev mv vv:Value} (t:TW) (hp:Bk t b1 (rC p uv sv ev mv vv) 209 (.obj i 0)):Cal 243 [.pointer (some ⟨b1,0,none⟩)] t No (fun r t' => r = .bool (decide (p.phase = 8))):=by
 refine Cal.en Tryz.func243 rfl Tryz.ntmps243<|WC.rs<|WL.a rfl<|WL.go<|WC.rs<|WL.m rfl<|WL.f (Fr.ncP rfl)<|WL.q 4 rfl fa209_4<|WL.r (Rd.ld rfl sc3 (hp.cell rfl))<|WL.f (Fr.bo rfl rfl BO.eq) ?_
 exact WL.a rfl<|WL.go<|WC.ret<|WQ.ret rfl (.tmp rfl .nil) (by show Value.bool _ = _; congr 1; rw [decide_eq_decide]; omega)
theorem read_Placed {i b1:Nat} {p:RProc} {uv sv ev mv vv:Value} (t:TW) (hp:Bk t b1 (rC p uv sv ev mv vv) 209 (.obj i 0)):Cal 245 [.pointer (some ⟨b1,0,none⟩)] t No (fun r t' => r = .int .i64 p.placed):=by
 refine Cal.en Tryz.func245 rfl Tryz.ntmps245<|WC.rs<|WL.a rfl<|WL.go<|WC.rs<|WL.m rfl<|WL.f (Fr.ncP rfl)<|WL.q 15 rfl fa209_13<|WL.r (Rd.ld rfl sc3 (hp.cell rfl))<|WL.a rfl ?_
 exact WL.go<|WC.ret<|WQ.ret rfl (.tmp rfl .nil) (rfl)
theorem read_Reply {i b1:Nat} {p:RProc} {uv sv ev mv vv:Value} (t:TW) (hp:Bk t b1 (rC p uv sv ev mv vv) 209 (.obj i 0)) (hv:Sl t kPres vv p.values):Cal 246 [.pointer (some ⟨b1,0,none⟩)] t No (fun r t' => ∃ v2,r = .agg (replyC (rReply p) v2 (.slice none 0 0)).toArray ∧ Sl t' kPres v2 (rReply p).values):=by
 obtain ⟨Av,cv,rfl,_⟩:=hv.form
 refine Cal.en Tryz.func246 rfl Tryz.ntmps246<|WC.rs<|WL.e (Ef.al (.loc 2) zr59) ?_
 rintro _ t1 ⟨b2,rfl,s1,hb2,nb2,mb2⟩
 obtain ⟨hp,hv⟩:=Q2 (hp.n s1) (hv.n s1)
 refine WL.go<|WC.seq<|WC.rs<|WL.m rfl<|WL.e (Ef.call rfl en243 (read_Done _ hp) (fun _ h=>h.elim)) ?_
 rintro _ t2 ⟨s2,rfl⟩
 obtain ⟨hb2,hp,hv⟩:=Q3 (hb2.n s2) (hp.n s2) (hv.n s2)
 refine WL.f (Fr.un_not rfl)<|WL.go ?_
 refine WC.condS rfl (fun hcond5=>?_) (fun hcond5=>?_)
 ·refine WC.rs<|WL.f (Fr.bd (vs:=[]) (cs:=#[.int .i64 0,.slice none 0 0,.slice none 0 0,.bool false]) rfl (fun w=>by kernel_rfl))<|WL.e0 (Ef.T [.int .i64 0,.slice none 0 0,.slice none 0 0,.bool false] rfl rfl hb2 sz59 (.inl nb2)) ?_
  rintro _ t3 ⟨u3,s3,hb2'⟩
  have hb2:Bk t3 b2 [.int .i64 0,.slice none 0 0,.slice none 0 0,.bool false] _ _:=hb2'
  clear hb2'
  exact WL.go<|WC.ret<|WQ.tr<|WQ.ret rfl (.cell rfl (loadVar_ag ag59 rfl (hb2.at (vs:=[.int .i64 0,.slice none 0 0,.slice none 0 0,.bool false]) rfl)) .nil) (by unfold rReply; rw [if_neg (by simpa using hcond5)]; exact ⟨_,rfl,Sl.nil _ _ _ _⟩)
 refine WC.skip<|WQ.n<|WC.rs<|WL.m rfl<|WL.f (Fr.ncP rfl)<|WL.q 16 rfl fa209_14<|WL.r (Rd.la rfl ag59 (hp.at (vs:=[.int .i64 p.err,.slice Av p.values.length cv,.slice none 0 0,.bool false]) rfl))<|WL.e0 (Ef.T [.int .i64 p.err,.slice Av p.values.length cv,.slice none 0 0,.bool false] rfl rfl hb2 sz59 (.inl nb2)) ?_
 rintro _ t4 ⟨u4,s4,hb2'⟩
 have hb2:Bk t4 b2 [.int .i64 p.err,.slice Av p.values.length cv,.slice none 0 0,.bool false] _ _:=hb2'
 clear hb2'
 have hv:=hv.n s4
 exact WL.go<|WC.ret<|WQ.ret rfl (.cell rfl (loadVar_ag ag59 rfl (hb2.at (vs:=[.int .i64 p.err,.slice Av p.values.length cv,.slice none 0 0,.bool false]) rfl)) .nil) (by unfold rReply; rw [if_pos (by simpa using hcond5)]; exact ⟨_,rfl,hv⟩)
theorem read_Waits {i b1:Nat} {p:RProc} {uv sv ev mv vv:Value} (t:TW) (hp:Bk t b1 (rC p uv sv ev mv vv) 209 (.obj i 0)) (hst:Sl t (kInt .i64) sv p.stripes) (hl:p.phase = 4 → p.at_ < p.stripes.length):Cal 248 [.pointer (some ⟨b1,0,none⟩)] t No (fun r t' => r = .int .i64 (rWaits p)):=by
 obtain ⟨As,cs,rfl,_⟩:=hst.form
 refine Cal.en Tryz.func248 rfl Tryz.ntmps248<|WC.rs<|WL.a rfl<|WL.go<|WC.seq<|WC.rs<|WL.m rfl<|WL.f (Fr.ncP rfl)<|WL.q 4 rfl fa209_4<|WL.r (Rd.ld rfl sc3 (hp.cell rfl)) ?_
 refine WL.f (Fr.bo rfl rfl BO.ne)<|WL.go ?_
 refine WC.condS rfl (fun hcond7=>?_) (fun hcond7=>?_)
 ·exact WC.rs<|WL.a rfl<|WL.go<|WC.ret<|WQ.tr<|WQ.ret rfl (.tmp rfl .nil) (by unfold rWaits; rw [if_neg (by have:=dcF (notE hcond7); omega)]; rfl)
 have h4:p.phase = 4:=by have:=dcT (notE hcond7); omega
 have hlt:=hl h4
 refine WC.skip<|WQ.n<|WC.drs (fun w=>At w b1 3 [.slice As p.stripes.length cs] ∧ True) .body (⟨hp.at rfl,trivial⟩) ?_
 obtain ⟨hp,hst⟩:=Q2 (hp.n (TW.drew_step _)) (hst.n (TW.drew_step _))
 refine DL.m 0 rfl rfl<|DL.fx 1 rfl (Fr.ncP rfl)<|DL.fx 2 rfl (Fr.q 3 rfl fa209_3)<|DL.m 4 rfl rfl<|DL.fx 5 rfl (Fr.ncP rfl)<|DL.fx 6 rfl (Fr.q 5 rfl fa209_5)<|DL.hx 3 rfl (fun w hw=>Rd.ld rfl sc37 (hw.1.one rfl))<|DL.rx 7 rfl (Rd.ld rfl sc3 (hp.cell rfl)) ?_
 obtain ⟨bq,oq,capq,cq,eq1,hcpq,hRq,hAq,hlbq,hfzq⟩:=hst.at_ (List.getElem?_eq_getElem hlt)
 obtain ⟨rfl,_,rfl⟩:=Value.slice.inj eq1
 obtain rfl:cq = [.int .i64 p.stripes[p.at_]]:=hRq
 refine DL.fx 8 rfl (Fr.ix rfl rfl sl37 (by omega) (by omega) (o' := oq + p.at_ * 1) (by simp))<|DL.rx 9 rfl (Rd.ld rfl sc3 (hAq.one rfl))<|DL.fx 10 rfl (Fr.as rfl)<|DL.D<|WQ.n<|WC.ret ?_
 exact WQ.ret rfl (.tmp rfl .nil) (by unfold rWaits; rw [if_pos h4,getD_at (List.getElem?_eq_getElem hlt)]; rfl)
theorem read_Enabled {i b b1:Nat} {p:RProc} {uv sv ev mv vv:Value} {h:HallS} (t:TW) (hp:Bk t b1 (rC p uv sv ev mv vv) 209 (.obj i 0)) (hst:Sl t (kInt .i64) sv p.stripes) (hl:p.phase = 4 → p.at_ < p.stripes.length) (hH:IsHall t b h) (hs:∀ s:Nat,rWaits p = (s:Int) → s < h.strs.length) (hs8:h.strs.length ≤ 8):Cal 244 [.pointer (some ⟨b1,0,none⟩),.pointer (some ⟨b,0,none⟩)] t No (fun r t' => r = .bool (rEnabled h p)):=by
 refine Cal.en Tryz.func244 rfl Tryz.ntmps244<|WC.rs<|WL.a rfl<|WL.go<|WC.rs<|WL.m rfl<|WL.f (Fr.ncP rfl)<|WL.q 4 rfl fa209_4<|WL.r (Rd.ld rfl sc3 (hp.cell rfl))<|WL.f (Fr.bo rfl rfl BO.ne) ?_
 refine WL.m rfl ?_
 refine WL.pin 10 rfl (fun hp10=>?_) (fun hp10=>?_)
 ·have h8:decide (p.phase = 8) = false:=decide_eq_false (by have:=dcF (notE hp10); omega)
  refine WL.m rfl<|WL.e (Ef.call rfl en248 (read_Waits _ hp hst hl) (fun _ h=>h.elim)) ?_
  rintro _ t1 ⟨s1,rfl⟩
  obtain ⟨hH,hp,hst⟩:=Q3 (hH.n s1) (hp.n s1) (hst.n s1)
  refine WL.f (Fr.bo rfl rfl BO.lt)<|WL.m rfl ?_
  refine WL.pin 14 rfl (fun hp14=>?_) (fun hp14=>?_)
  ·exact WL.s<|WL.s<|WL.s<|WL.s<|WL.f (Fr.pkT rfl rfl)<|WL.f (Fr.pkT rfl rfl)<|WL.a rfl<|WL.go<|WC.ret<|WQ.ret rfl (.tmp rfl .nil) (by unfold rEnabled; rw [h8,show decide (rWaits p < 0) = true from hp14]; rfl)
  have hw0:¬ rWaits p < 0:=dcF hp14
  obtain ⟨s,hsw⟩:=Int.eq_ofNat_of_zero_le (by omega:0 ≤ rWaits p)
  refine WL.m rfl<|WL.m rfl<|WL.e (Ef.call rfl en248 (read_Waits _ hp hst hl) (fun _ h=>h.elim)) ?_
  rintro _ t2 ⟨s2,rfl⟩
  have hH:=hH.n s2
  refine WL.re 17 (v' := .int .i64 (s:Int)) rfl (congrArg (Value.int .i64) hsw)<|WL.e (Ef.call rfl en102 (hall_Free _ hH (hs s hsw) hs8) (fun _ h=>h.elim)) ?_
  rintro _ t3 ⟨s3,rfl⟩
  exact WL.f (Fr.pkF rfl rfl)<|WL.f (Fr.pkT rfl rfl)<|WL.a rfl<|WL.go<|WC.ret<|WQ.ret rfl (.tmp rfl .nil) (by unfold rEnabled; rw [h8,show decide (rWaits p < 0) = false from hp14,hsw]; rfl)
 have h8:decide (p.phase = 8) = true:=decide_eq_true (by have:=dcT (notE hp10); omega)
 refine WL.s<|WL.s<|WL.s<|WL.s<|WL.s<|WL.s<|WL.s<|WL.s<|WL.s<|WL.f (Fr.pkF rfl rfl) ?_
 exact WL.a rfl<|WL.go<|WC.ret<|WQ.ret rfl (.tmp rfl .nil) (by unfold rEnabled; rw [h8]; rfl)
theorem read_next {i b1:Nat} {p:RProc} {uv sv ev mv vv:Value} (ph:Nat) (t:TW) (hp:Bk t b1 (rC p uv sv ev mv vv) 209 (.obj i 0)) (hst:Sl t (kInt .i64) sv p.stripes) (ha:p.at_ ≤ 1000):Cal 251 [.pointer (some ⟨b1,0,none⟩),.int .i64 (ph:Int)] t (fun z=>z = .obj i 0) (fun r t' => r = .bool (rNext p ph).2 ∧ Bk t' b1 (rC (rNext p ph).1 uv sv ev mv vv) 209 (.obj i 0)):=by
 obtain ⟨As,cs,rfl,_⟩:=hst.form
 refine Cal.en Tryz.func251 rfl Tryz.ntmps251<|WC.rs<|WL.a rfl<|WL.go<|WC.seq<|WC.rs<|WL.m rfl<|WL.f (Fr.ncP rfl)<|WL.q 5 rfl fa209_5<|WL.r (Rd.ld rfl sc3 (hp.cell rfl)) ?_
 refine WL.f (Fr.bo rfl rfl (BO.add (by omega) (by omega)))<|WL.f (Fr.ncP rfl)<|WL.q 5 rfl fa209_5<|WL.e0 (Ef.T [.int .i64 ((p.at_:Int) + 1)] rfl rfl hp sz3 (.inr rfl)) ?_
 rintro _ t1 ⟨u1,s1,hp'⟩
 have hp:Bk t1 b1 [.int .i64 (p.who:Int),uv,.int .i64 p.of_,.slice As p.stripes.length cs,.int .i64 (p.phase:Int),.int .i64 ((p.at_:Int) + 1),.int .i64 p.tries,ev,.bool p.valid,.bool p.spent,mv,.int .u64 p.time.now,.int .u64 p.time.seq,.bool p.time.closed,.int .i64 p.looked,.int .i64 p.placed,.int .i64 p.err,vv,.slice none 0 0,.bool false] _ _:=hp'
 clear hp'
 refine WL.go<|WC.drs (fun w=>At w b1 5 [.int .i64 ((p.at_:Int) + 1)] ∧ True) (.then_ .body) (⟨hp.at rfl,trivial⟩) ?_
 have hp:=hp.n (TW.drew_step _)
 refine DL.m 0 rfl rfl<|DL.fx 1 rfl (Fr.ncP rfl)<|DL.fx 2 rfl (Fr.q 5 rfl fa209_5)<|DL.m 4 rfl rfl<|DL.fx 5 rfl (Fr.ncP rfl)<|DL.fx 6 rfl (Fr.q 3 rfl fa209_3)<|DL.hx 3 rfl (fun w hw=>Rd.ld rfl sc3 (hw.1.one rfl))<|DL.rx 7 rfl (Rd.ld rfl sc37 (hp.cell rfl))<|DL.fx 8 rfl (Fr.ln rfl Tryz.underlying37)<|DL.fx 9 rfl (Fr.bo rfl rfl BO.lt) ?_
 refine DL.D<|WQ.n ?_
 refine WC.condS rfl (fun hcond21=>?_) (fun hcond21=>?_)
 ·exact WC.rs<|WL.a rfl<|WL.go<|WC.ret<|WQ.tr<|WQ.ret rfl (.tmp rfl .nil) (by unfold rNext; rw [if_pos (by have:=dcT hcond21; omega)]; exact ⟨rfl,hp⟩)
 refine WC.skip<|WQ.n<|WC.rs<|WL.m rfl<|WL.m rfl<|WL.m rfl<|WL.f (Fr.ncP rfl)<|WL.q 4 rfl fa209_4<|WL.e0 (Ef.T [.int .i64 (ph:Int)] rfl rfl hp sz3 (.inr rfl)) ?_
 rintro _ t2 ⟨u2,s2,hp'⟩
 have hp:Bk t2 b1 [.int .i64 (p.who:Int),uv,.int .i64 p.of_,.slice As p.stripes.length cs,.int .i64 (ph:Int),.int .i64 ((p.at_:Int) + 1),.int .i64 p.tries,ev,.bool p.valid,.bool p.spent,mv,.int .u64 p.time.now,.int .u64 p.time.seq,.bool p.time.closed,.int .i64 p.looked,.int .i64 p.placed,.int .i64 p.err,vv,.slice none 0 0,.bool false] _ _:=hp'
 clear hp'
 refine WL.f (Fr.ncP rfl)<|WL.q 5 rfl fa209_5<|WL.e0 (Ef.T [.int .i64 0] rfl rfl hp sz3 (.inr rfl)) ?_
 rintro _ t3 ⟨u3,s3,hp'⟩
 have hp:Bk t3 b1 [.int .i64 (p.who:Int),uv,.int .i64 p.of_,.slice As p.stripes.length cs,.int .i64 (ph:Int),.int .i64 0,.int .i64 p.tries,ev,.bool p.valid,.bool p.spent,mv,.int .u64 p.time.now,.int .u64 p.time.seq,.bool p.time.closed,.int .i64 p.looked,.int .i64 p.placed,.int .i64 p.err,vv,.slice none 0 0,.bool false] _ _:=hp'
 clear hp'
 exact WL.go<|WC.rs<|WL.a rfl<|WL.go<|WC.ret<|WQ.ret rfl (.tmp rfl .nil) (by unfold rNext; rw [if_neg (by have:=dcF hcond21; omega)]; exact ⟨rfl,hp⟩)
structure AOk (p:RProc):Prop where
 ul:p.users.length ≤ 1000
 us:∀ u ∈ p.users,u.size ≤ 1000000
 of_:p.of_ ≤ 1000000
 bk:∀ k,BookOk ((gget p.seen k).getD noBook)
 v:p.values = []
theorem read_answer {i b1 b2:Nat} {p:RProc} {uv sv ev:Value} (t:TW) (hp:Bk t b1 (rC p uv sv ev (.map (some b2)) (.slice none 0 0)) 209 (.obj i 0)) (hu:Sl t kStr uv p.users) (hm:Mp t b2 (.mp i 0) encI mvBook p.seen) (k:AOk p):Cal 249 [.pointer (some ⟨b1,0,none⟩)] t (fun z=>z = .obj i 0) (fun r t' => ∃ vv,Bk t' b1 (rC (rAnswer p) uv sv ev (.map (some b2)) vv) 209 (.obj i 0) ∧ Sl t' kPres vv (rAnswer p).values ∧ ((rAnswer p).values = [] → vv = .slice none 0 0)):=by
 obtain ⟨mv,hmv⟩:∃ mv,mv = Value.map (some b2):=⟨_,rfl⟩
 rw [← hmv] at hp ⊢
 have hz:t.w.heap.size ≤ t.w.heap.size:=Nat.le_refl _
 have kul:=k.ul
 have ks:=k.us
 have kof:=k.of_
 have kbk:=k.bk
 have kv:=k.v
 clear k
 obtain ⟨Au,cu,rfl,_⟩:=hu.form
 refine Cal.en Tryz.func249 rfl Tryz.ntmps249<|WC.rs<|WL.m rfl<|WL.m rfl<|WL.f (Fr.ncP rfl)<|WL.q 14 rfl fa209_12<|WL.r (Rd.ld rfl sc3 (hp.cell rfl))<|WL.f (Fr.ncP rfl)<|WL.q 15 rfl fa209_13<|WL.e0 (Ef.T [.int .i64 p.looked] rfl rfl hp sz3 (.inr rfl)) ?_
 rintro _ t1 ⟨u1,s1,hp'⟩
 have hp:Bk t1 b1 [.int .i64 (p.who:Int),.slice Au p.users.length cu,.int .i64 p.of_,sv,.int .i64 (p.phase:Int),.int .i64 (p.at_:Int),.int .i64 p.tries,ev,.bool p.valid,.bool p.spent,mv,.int .u64 p.time.now,.int .u64 p.time.seq,.bool p.time.closed,.int .i64 p.looked,.int .i64 p.looked,.int .i64 p.err,.slice none 0 0,.slice none 0 0,.bool false] _ _:=hp'
 clear hp'
 obtain ⟨hm,hu,hz⟩:=Q3 (hm.n s1) (hu.n s1) (Nat.le_trans hz s1.size)
 refine WL.go<|WC.seq<|WC.rs<|WL.m rfl<|WL.f (Fr.ncP rfl)<|WL.q 11 rfl fa209_11<|WL.q 13 rfl fa42_2<|WL.r (Rd.ld rfl sc4 (hp.cell rfl))<|WL.go ?_
 refine WC.condS rfl (fun hcond15=>?_) (fun hcond15=>?_)
 ·refine WC.rs<|WL.m rfl<|WL.f (Fr.bd (vs:=[(0,.int .i64 5)]) (cs:=#[.int .i64 5,.slice none 0 0,.slice none 0 0,.bool false]) rfl (fun w=>by kernel_rfl))<|WL.f (Fr.ncP rfl)<|WL.q 16 rfl fa209_14<|WL.e0 (Ef.T [.int .i64 5,.slice none 0 0,.slice none 0 0,.bool false] rfl rfl hp sz59 (.inr rfl)) ?_
  rintro _ t2 ⟨u2,s2,hp'⟩
  have hp:Bk t2 b1 [.int .i64 (p.who:Int),.slice Au p.users.length cu,.int .i64 p.of_,sv,.int .i64 (p.phase:Int),.int .i64 (p.at_:Int),.int .i64 p.tries,ev,.bool p.valid,.bool p.spent,mv,.int .u64 p.time.now,.int .u64 p.time.seq,.bool p.time.closed,.int .i64 p.looked,.int .i64 p.looked,.int .i64 5,.slice none 0 0,.slice none 0 0,.bool false] _ _:=hp'
  clear hp'
  have hz:=Nat.le_trans hz s2.size
  exact WL.go<|WC.ret<|WQ.tr<|WQ.ret rfl .nil (by have e:rAnswer p = { p with placed:=p.looked,err:=5,values:=[] }:=by { unfold rAnswer; rw [if_pos (show p.time.closed = true from hcond15)] }; rw [e]; exact ⟨_,hp,Sl.nil _ _ _ _,fun _=>rfl⟩)
 refine WC.skip<|WQ.n<|WC.rs<|WL.m rfl<|WL.f (Fr.ncP rfl)<|WL.q 1 rfl fa209_1<|WL.r (Rd.ld rfl sc54 (hp.cell rfl))<|WL.f (Fr.ln rfl Tryz.underlying54)<|WL.m rfl<|WL.go ?_
 refine WC.block<|WC.loop (σ:=Nat) (fun k t' => Sl t' kStr (.slice Au p.users.length cu) p.users ∧ Mp t' b2 (.mp i 0) encI mvBook p.seen ∧ t.w.heap.size ≤ t'.w.heap.size ∧ k ≤ p.users.length ∧ (∃ vv,Bk t' b1 (rC { p with placed:=p.looked } (.slice Au p.users.length cu) sv ev mv vv) 209 (.obj i 0) ∧ Row t' (.loc 54) t.w.heap.size 72 kPres vv ((p.users.take k).map (rAns p)) ∧ (k = 0 → vv = .slice none 0 0)) ∧ True) (fun k=>[(0,.pointer (some ⟨b1,0,none⟩)),(23,.slice Au p.users.length cu),(24,.int .i64 (p.users.length:Int)),(25,.int .i64 (k:Int))]) (fun k=>p.users.length - k) 0 ⟨rfl,rfl,rfl,rfl,trivial⟩ ⟨hu,hm,hz,Nat.zero_le _,⟨_,hp,Row.nil _ _ _ _ _,fun _=>rfl⟩,trivial⟩ ?_
 rintro k t3 ⟨hu,hm,hz,hk,hI,_⟩
 obtain ⟨vv,hp,hr,h0⟩:=hI
 obtain ⟨Av,cv,rfl,_⟩:=hr.form
 refine WC.rs<|WL.f (Fr.bo rfl rfl BO.lt)<|WL.go<|WC.seq ?_
 refine WC.condS rfl (fun hcond26=>?_) (fun hcond26=>?_)
 ·have hlt:k < p.users.length:=by have:=dcT hcond26; omega
  refine WC.skip<|WQ.n<|WC.seq<|WC.block<|WC.rs ?_
  obtain ⟨b,o,cap,c,e1,hcp,hR,hA,hlb,hfz⟩:=hu.at_ (List.getElem?_eq_getElem hlt)
  obtain ⟨hAu,_,_⟩:=Value.slice.inj e1
  obtain rfl:c = [.string p.users[k]]:=hR
  refine WL.f (Fr.ix (congrArg (fun A=>some (Value.slice A p.users.length cu)) hAu) rfl sl54 (by omega) (by omega) (o' := o + k * 1) (by simp))<|WL.r (Rd.ld rfl sc9 (hA.one rfl))<|WL.a rfl<|WL.go<|WC.dr (fun w=>At w b1 10 [mv] ∧ At w b1 2 [.int .i64 p.of_] ∧ At w b1 11 [.int .u64 p.time.now] ∧ True) (.blk (.then_ (.then_ (.blk .body)))) (⟨hp.at rfl,hp.at rfl,hp.at rfl,trivial⟩) ?_
  obtain ⟨hm,hp,hr,hu,hz⟩:=Q5 (hm.n (TW.drew_step _)) (hp.n (TW.drew_step _)) (hr.n (TW.drew_step _)) (hu.n (TW.drew_step _)) (Nat.le_trans hz (TW.drew_step _).size)
  refine DL.m 0 rfl rfl<|DL.m 1 rfl rfl<|DL.fx 2 rfl (Fr.ncP rfl)<|DL.fx 3 rfl (Fr.q 16 rfl fa209_14)<|DL.fx 4 rfl (Fr.q 17 rfl fa59_1)<|DL.m 6 rfl rfl<|DL.fx 7 rfl (Fr.ncP rfl)<|DL.fx 8 rfl (Fr.q 10 rfl fa209_10)<|DL.m 10 rfl rfl<|DL.m 11 rfl rfl ?_
  refine DL.fx 12 rfl (Fr.ncP rfl)<|DL.fx 13 rfl (Fr.q 2 rfl fa209_2)<|DL.m 17 rfl rfl<|DL.m 18 rfl rfl<|DL.fx 19 rfl (Fr.ncP rfl)<|DL.fx 20 rfl (Fr.q 11 rfl fa209_11)<|DL.fx 21 rfl (Fr.q 11 rfl fa42_0)<|DL.hx 9 rfl (fun w hw=>Rd.ld rfl sc207 (hw.1.one rfl))<|DL.hx 14 rfl (fun w hw=>Rd.ld rfl sc3 (hw.2.1.one rfl))<|DL.hx 22 rfl (fun w hw=>Rd.ld rfl sc22 (hw.2.2.1.one rfl)) ?_
  refine DL.e2 (i:=5) (j:=15) (by kernel_rfl) ?_ ?_
  focus
   refine DOp.r rfl (Rd.ld rfl sc57 (hp.cell rfl))<|DL.ex 15 rfl (Ef.call rfl en111 (hash_Stripe _ _ _ (ks _ (List.getElem_mem hlt)) kof) (fun _ h=>h.elim)) (fun _ _ ⟨s,_⟩=>⟨hp.a s,hp.a s,hp.a s,trivial⟩) ?_
   rintro _ t4 ⟨s4,rfl⟩
   obtain ⟨hm,hp,hr,hu,hz⟩:=Q5 (hm.n s4) (hp.n s4) (hr.n s4) (hu.n s4) (Nat.le_trans hz s4.size)
   obtain ⟨kv1,vk1,hrun,hkv,hvk⟩:=hm.book (stripeOf p.users[k] p.of_)
   rw [← hmv] at hrun
   refine DL.rx 16 rfl (Rd.lk rfl rfl hrun)<|DL.ex 23 rfl (Ef.call rfl en256 (book_Presence _ _ _ _ _ _ hkv hvk (kbk _)) (fun _ h=>h.elim)) (fun _ _ ⟨s,_⟩=>⟨hp.a s,hp.a s,hp.a s,trivial⟩) ?_
   rintro _ t5 ⟨s5,rfl⟩
   obtain ⟨hm,hp,hr,hu,hz⟩:=Q5 (hm.n s5) (hp.n s5) (hr.n s5) (hu.n s5) (Nat.le_trans hz s5.size)
   refine DL.ex 24 rfl (Ef.bs (.loc 53) (vs:=[(0,.agg #[.int .i64 (rAns p p.users[k]).status,.int .i64 (rAns p p.users[k]).prio,.int .i64 (rAns p p.users[k]).live])]) (cs:=[.int .i64 (rAns p p.users[k]).status,.int .i64 (rAns p p.users[k]).prio,.int .i64 (rAns p p.users[k]).live]) (e:=72) rfl (fun w=>by kernel_rfl)) (fun _ _ ⟨_,_,s,_⟩=>⟨hp.a s,hp.a s,hp.a s,trivial⟩) ?_
   rintro _ t6 ⟨b53,rfl,s6,hb53,nb53,_⟩
   obtain ⟨hm,hp,hr,hu,hz⟩:=Q5 (hm.n s6) (hp.n s6) (hr.n s6) (hu.n s6) (Nat.le_trans hz s6.size)
   refine DL.ex 25 rfl (Ef.ap1 (y1:=rAns p p.users[k]) rfl rfl hb53 rfl sl57 el72 (by decide) hr hz (by rw [List.length_map,List.length_take]; omega) (by decide) nofun (.inl (Nat.le_refl _))) (fun _ _ ⟨s,_⟩=>⟨hp.a s,hp.a s,hp.a s,trivial⟩) ?_
   rintro v54 t7 ⟨s7,hr2⟩
   obtain ⟨hm,hp,hu,hz⟩:=Q4 (hm.n s7) (hp.n s7) (hu.n s7) (Nat.le_trans hz s7.size)
   rw [show (p.users.take k).map (rAns p) ++ [rAns p p.users[k]] = (p.users.take (k + 1)).map (rAns p) by rw [List.take_succ_eq_append_getElem hlt,List.map_append]; rfl] at hr2
   obtain ⟨A2,c2,rfl,_⟩:=hr2.form
   refine DL.fx 26 rfl (Fr.ncP rfl)<|DL.fx 27 rfl (Fr.q 16 rfl fa209_14)<|DL.fx 28 rfl (Fr.q 17 rfl fa59_1)<|DL.e0x 29 rfl (Ef.T [.slice A2 ((p.users.take (k + 1)).map (rAns p)).length c2] rfl rfl hp sz57 (.inr rfl)) (fun _ _ ⟨_,_,hb⟩=>⟨hb.at rfl,hb.at rfl,hb.at rfl,trivial⟩) ?_
   rintro _ t8 ⟨u8,s8,hp'⟩
  rotate_left
  focus
   refine DOp.e rfl (Ef.call rfl en111 (hash_Stripe _ _ _ (ks _ (List.getElem_mem hlt)) kof) (fun _ h=>h.elim)) (fun _ _ ⟨s,_⟩=>⟨hp.a s,hp.a s,hp.a s,trivial⟩) ?_
   rintro _ t9 ⟨s9,rfl⟩
   obtain ⟨hm,hp,hr,hu,hz⟩:=Q5 (hm.n s9) (hp.n s9) (hr.n s9) (hu.n s9) (Nat.le_trans hz s9.size)
   refine DL.e2 (i:=5) (j:=16) (by kernel_rfl) ?_ ?_
   focus
    refine DOp.r rfl (Rd.ld rfl sc57 (hp.cell rfl)) ?_
    obtain ⟨kv1,vk1,hrun,hkv,hvk⟩:=hm.book (stripeOf p.users[k] p.of_)
    rw [← hmv] at hrun
    refine DL.rx 16 rfl (Rd.lk rfl rfl hrun)<|DL.ex 23 rfl (Ef.call rfl en256 (book_Presence _ _ _ _ _ _ hkv hvk (kbk _)) (fun _ h=>h.elim)) (fun _ _ ⟨s,_⟩=>⟨hp.a s,hp.a s,hp.a s,trivial⟩) ?_
    rintro _ t10 ⟨s10,rfl⟩
    obtain ⟨hm,hp,hr,hu,hz⟩:=Q5 (hm.n s10) (hp.n s10) (hr.n s10) (hu.n s10) (Nat.le_trans hz s10.size)
    refine DL.ex 24 rfl (Ef.bs (.loc 53) (vs:=[(0,.agg #[.int .i64 (rAns p p.users[k]).status,.int .i64 (rAns p p.users[k]).prio,.int .i64 (rAns p p.users[k]).live])]) (cs:=[.int .i64 (rAns p p.users[k]).status,.int .i64 (rAns p p.users[k]).prio,.int .i64 (rAns p p.users[k]).live]) (e:=72) rfl (fun w=>by kernel_rfl)) (fun _ _ ⟨_,_,s,_⟩=>⟨hp.a s,hp.a s,hp.a s,trivial⟩) ?_
    rintro _ t11 ⟨b53,rfl,s11,hb53,nb53,_⟩
    obtain ⟨hm,hp,hr,hu,hz⟩:=Q5 (hm.n s11) (hp.n s11) (hr.n s11) (hu.n s11) (Nat.le_trans hz s11.size)
    refine DL.ex 25 rfl (Ef.ap1 (y1:=rAns p p.users[k]) rfl rfl hb53 rfl sl57 el72 (by decide) hr hz (by rw [List.length_map,List.length_take]; omega) (by decide) nofun (.inl (Nat.le_refl _))) (fun _ _ ⟨s,_⟩=>⟨hp.a s,hp.a s,hp.a s,trivial⟩) ?_
    rintro v54 t12 ⟨s12,hr2⟩
    obtain ⟨hm,hp,hu,hz⟩:=Q4 (hm.n s12) (hp.n s12) (hu.n s12) (Nat.le_trans hz s12.size)
    rw [show (p.users.take k).map (rAns p) ++ [rAns p p.users[k]] = (p.users.take (k + 1)).map (rAns p) by rw [List.take_succ_eq_append_getElem hlt,List.map_append]; rfl] at hr2
    obtain ⟨A2,c2,rfl,_⟩:=hr2.form
    refine DL.fx 26 rfl (Fr.ncP rfl)<|DL.fx 27 rfl (Fr.q 16 rfl fa209_14)<|DL.fx 28 rfl (Fr.q 17 rfl fa59_1)<|DL.e0x 29 rfl (Ef.T [.slice A2 ((p.users.take (k + 1)).map (rAns p)).length c2] rfl rfl hp sz57 (.inr rfl)) (fun _ _ ⟨_,_,hb⟩=>⟨hb.at rfl,hb.at rfl,hb.at rfl,trivial⟩) ?_
    rintro _ t8 ⟨u13,s8,hp'⟩
   rotate_left
   focus
    obtain ⟨kv1,vk1,hrun,hkv,hvk⟩:=hm.book (stripeOf p.users[k] p.of_)
    rw [← hmv] at hrun
    refine DOp.r rfl (Rd.lk rfl rfl hrun) ?_
    refine DL.e2 (i:=5) (j:=23) (by kernel_rfl) ?_ ?_
    focus
     refine DOp.r rfl (Rd.ld rfl sc57 (hp.cell rfl))<|DL.ex 23 rfl (Ef.call rfl en256 (book_Presence _ _ _ _ _ _ hkv hvk (kbk _)) (fun _ h=>h.elim)) (fun _ _ ⟨s,_⟩=>⟨hp.a s,hp.a s,hp.a s,trivial⟩) ?_
     rintro _ t14 ⟨s14,rfl⟩
     obtain ⟨hm,hp,hr,hu,hz⟩:=Q5 (hm.n s14) (hp.n s14) (hr.n s14) (hu.n s14) (Nat.le_trans hz s14.size)
     refine DL.ex 24 rfl (Ef.bs (.loc 53) (vs:=[(0,.agg #[.int .i64 (rAns p p.users[k]).status,.int .i64 (rAns p p.users[k]).prio,.int .i64 (rAns p p.users[k]).live])]) (cs:=[.int .i64 (rAns p p.users[k]).status,.int .i64 (rAns p p.users[k]).prio,.int .i64 (rAns p p.users[k]).live]) (e:=72) rfl (fun w=>by kernel_rfl)) (fun _ _ ⟨_,_,s,_⟩=>⟨hp.a s,hp.a s,hp.a s,trivial⟩) ?_
     rintro _ t15 ⟨b53,rfl,s15,hb53,nb53,_⟩
     obtain ⟨hm,hp,hr,hu,hz⟩:=Q5 (hm.n s15) (hp.n s15) (hr.n s15) (hu.n s15) (Nat.le_trans hz s15.size)
     refine DL.ex 25 rfl (Ef.ap1 (y1:=rAns p p.users[k]) rfl rfl hb53 rfl sl57 el72 (by decide) hr hz (by rw [List.length_map,List.length_take]; omega) (by decide) nofun (.inl (Nat.le_refl _))) (fun _ _ ⟨s,_⟩=>⟨hp.a s,hp.a s,hp.a s,trivial⟩) ?_
     rintro v54 t16 ⟨s16,hr2⟩
     obtain ⟨hm,hp,hu,hz⟩:=Q4 (hm.n s16) (hp.n s16) (hu.n s16) (Nat.le_trans hz s16.size)
     rw [show (p.users.take k).map (rAns p) ++ [rAns p p.users[k]] = (p.users.take (k + 1)).map (rAns p) by rw [List.take_succ_eq_append_getElem hlt,List.map_append]; rfl] at hr2
     obtain ⟨A2,c2,rfl,_⟩:=hr2.form
     refine DL.fx 26 rfl (Fr.ncP rfl)<|DL.fx 27 rfl (Fr.q 16 rfl fa209_14)<|DL.fx 28 rfl (Fr.q 17 rfl fa59_1)<|DL.e0x 29 rfl (Ef.T [.slice A2 ((p.users.take (k + 1)).map (rAns p)).length c2] rfl rfl hp sz57 (.inr rfl)) (fun _ _ ⟨_,_,hb⟩=>⟨hb.at rfl,hb.at rfl,hb.at rfl,trivial⟩) ?_
     rintro _ t8 ⟨u17,s8,hp'⟩
    rotate_left
    focus
     refine DOp.e rfl (Ef.call rfl en256 (book_Presence _ _ _ _ _ _ hkv hvk (kbk _)) (fun _ h=>h.elim)) (fun _ _ ⟨s,_⟩=>⟨hp.a s,hp.a s,hp.a s,trivial⟩) ?_
     rintro _ t18 ⟨s18,rfl⟩
     obtain ⟨hm,hp,hr,hu,hz⟩:=Q5 (hm.n s18) (hp.n s18) (hr.n s18) (hu.n s18) (Nat.le_trans hz s18.size)
     refine DL.e2 (i:=5) (j:=24) (by kernel_rfl) ?_ ?_
     focus
      refine DOp.r rfl (Rd.ld rfl sc57 (hp.cell rfl))<|DL.ex 24 rfl (Ef.bs (.loc 53) (vs:=[(0,.agg #[.int .i64 (rAns p p.users[k]).status,.int .i64 (rAns p p.users[k]).prio,.int .i64 (rAns p p.users[k]).live])]) (cs:=[.int .i64 (rAns p p.users[k]).status,.int .i64 (rAns p p.users[k]).prio,.int .i64 (rAns p p.users[k]).live]) (e:=72) rfl (fun w=>by kernel_rfl)) (fun _ _ ⟨_,_,s,_⟩=>⟨hp.a s,hp.a s,hp.a s,trivial⟩) ?_
      rintro _ t19 ⟨b53,rfl,s19,hb53,nb53,_⟩
      obtain ⟨hm,hp,hr,hu,hz⟩:=Q5 (hm.n s19) (hp.n s19) (hr.n s19) (hu.n s19) (Nat.le_trans hz s19.size)
      refine DL.ex 25 rfl (Ef.ap1 (y1:=rAns p p.users[k]) rfl rfl hb53 rfl sl57 el72 (by decide) hr hz (by rw [List.length_map,List.length_take]; omega) (by decide) nofun (.inl (Nat.le_refl _))) (fun _ _ ⟨s,_⟩=>⟨hp.a s,hp.a s,hp.a s,trivial⟩) ?_
      rintro v54 t20 ⟨s20,hr2⟩
      obtain ⟨hm,hp,hu,hz⟩:=Q4 (hm.n s20) (hp.n s20) (hu.n s20) (Nat.le_trans hz s20.size)
      rw [show (p.users.take k).map (rAns p) ++ [rAns p p.users[k]] = (p.users.take (k + 1)).map (rAns p) by rw [List.take_succ_eq_append_getElem hlt,List.map_append]; rfl] at hr2
      obtain ⟨A2,c2,rfl,_⟩:=hr2.form
      refine DL.fx 26 rfl (Fr.ncP rfl)<|DL.fx 27 rfl (Fr.q 16 rfl fa209_14)<|DL.fx 28 rfl (Fr.q 17 rfl fa59_1)<|DL.e0x 29 rfl (Ef.T [.slice A2 ((p.users.take (k + 1)).map (rAns p)).length c2] rfl rfl hp sz57 (.inr rfl)) (fun _ _ ⟨_,_,hb⟩=>⟨hb.at rfl,hb.at rfl,hb.at rfl,trivial⟩) ?_
      rintro _ t8 ⟨u21,s8,hp'⟩
     rotate_left
     focus
      refine DOp.e rfl (Ef.bs (.loc 53) (vs:=[(0,.agg #[.int .i64 (rAns p p.users[k]).status,.int .i64 (rAns p p.users[k]).prio,.int .i64 (rAns p p.users[k]).live])]) (cs:=[.int .i64 (rAns p p.users[k]).status,.int .i64 (rAns p p.users[k]).prio,.int .i64 (rAns p p.users[k]).live]) (e:=72) rfl (fun w=>by kernel_rfl)) (fun _ _ ⟨_,_,s,_⟩=>⟨hp.a s,hp.a s,hp.a s,trivial⟩) ?_
      rintro _ t22 ⟨b53,rfl,s22,hb53,nb53,_⟩
      obtain ⟨hm,hp,hr,hu,hz⟩:=Q5 (hm.n s22) (hp.n s22) (hr.n s22) (hu.n s22) (Nat.le_trans hz s22.size)
      refine DL.rx 5 rfl (Rd.ld rfl sc57 (hp.cell rfl))<|DL.ex 25 rfl (Ef.ap1 (y1:=rAns p p.users[k]) rfl rfl hb53 rfl sl57 el72 (by decide) hr hz (by rw [List.length_map,List.length_take]; omega) (by decide) nofun (.inl (Nat.le_refl _))) (fun _ _ ⟨s,_⟩=>⟨hp.a s,hp.a s,hp.a s,trivial⟩) ?_
      rintro v54 t23 ⟨s23,hr2⟩
      obtain ⟨hm,hp,hu,hz⟩:=Q4 (hm.n s23) (hp.n s23) (hu.n s23) (Nat.le_trans hz s23.size)
      rw [show (p.users.take k).map (rAns p) ++ [rAns p p.users[k]] = (p.users.take (k + 1)).map (rAns p) by rw [List.take_succ_eq_append_getElem hlt,List.map_append]; rfl] at hr2
      obtain ⟨A2,c2,rfl,_⟩:=hr2.form
      refine DL.fx 26 rfl (Fr.ncP rfl)<|DL.fx 27 rfl (Fr.q 16 rfl fa209_14)<|DL.fx 28 rfl (Fr.q 17 rfl fa59_1)<|DL.e0x 29 rfl (Ef.T [.slice A2 ((p.users.take (k + 1)).map (rAns p)).length c2] rfl rfl hp sz57 (.inr rfl)) (fun _ _ ⟨_,_,hb⟩=>⟨hb.at rfl,hb.at rfl,hb.at rfl,trivial⟩) ?_
      rintro _ t8 ⟨u24,s8,hp'⟩
  all_goals
   have hp:Bk t8 b1 [.int .i64 (p.who:Int),.slice Au p.users.length cu,.int .i64 p.of_,sv,.int .i64 (p.phase:Int),.int .i64 (p.at_:Int),.int .i64 p.tries,ev,.bool p.valid,.bool p.spent,mv,.int .u64 p.time.now,.int .u64 p.time.seq,.bool p.time.closed,.int .i64 p.looked,.int .i64 p.looked,.int .i64 p.err,.slice A2 ((p.users.take (k + 1)).map (rAns p)).length c2,.slice none 0 0,.bool false] _ _:=hp'
   clear hp'
   obtain ⟨hm,hr2,hu,hz⟩:=Q4 (hm.n s8) (hr2.n s8) (hu.n s8) (Nat.le_trans hz s8.size)
   exact DL.D<|WQ.bn<|WQ.n<|WC.rg<|WL.f (Fr.bo rfl rfl (BO.add (by omega) (by omega)))<|WL.m rfl<|WL.nil<|WQ.again (k + 1) ⟨rfl,rfl,rfl,rfl,trivial⟩ ⟨hu,hm,hz,hlt,⟨_,hp,hr2,fun h=>absurd h (Nat.succ_ne_zero k)⟩,trivial⟩ (by omega)
 have hge:k = p.users.length:=by have:=dcF hcond26; omega
 refine WC.exit<|WQ.tx<|WQ.tx<|WQ.bx ?_
 subst hge
 rw [List.take_length] at hr h0 hp
 refine WQ.tag _ .fz (.inl hr.base) ?_
 have hp:=hp.step (TW.tagv_step _ (g' := .fz) hr.tags) nofun
 exact WQ.end_ rfl .nil (by
    have e:rAnswer p = { p with placed:=p.looked,values:=p.users.map (rAns p) }:=by
     unfold rAnswer
     rw [if_neg (by rw [show p.time.closed = false from hcond15]; decide),kv]
     rfl
    rw [e]
    refine ⟨_,hp,hr.freeze nofun,fun h=>?_⟩
    have h2:p.users.length = 0:=by
     have:=congrArg List.length h
     simpa using this
    rw [h0 h2])
theorem rAnswer_same (p:RProc):(rAnswer p).users = p.users ∧ (rAnswer p).stripes = p.stripes ∧ (rAnswer p).epochs = p.epochs ∧ (rAnswer p).seen = p.seen:=by
 unfold rAnswer
 split <;> exact ⟨rfl,rfl,rfl,rfl⟩
theorem rUsers_mem {x:Opr} {u:ByteArray} (h:u ∈ rUsers x):u = x.user ∨ u ∈ x.users:=by
 unfold rUsers usersOf at h
 split at h
 ·cases h
 split at h
 ·exact .inl (List.mem_singleton.1 h)
 split at h
 ·exact .inr h
 cases h
theorem rUsers_len (x:Opr):(rUsers x).length ≤ x.users.length + 1:=by
 unfold rUsers usersOf
 split
 ·simp
 split
 ·simp
 split <;> simp
theorem read_judge {i b1:Nat} {p:RProc} {uv sv ev mv vv:Value} (t:TW) (hp:Bk t b1 (rC p uv sv ev mv vv) 209 (.obj i 0)) (hR:RdP t i p uv sv ev mv vv) (hsl:p.stripes.length ≤ 1000) (ht0:0 ≤ p.tries) (ht1:p.tries ≤ 1000) (k:AOk p):Cal 254 [.pointer (some ⟨b1,0,none⟩)] t (fun z=>z = .obj i 0) (fun r t' => IsRd t' i b1 (rJudge p)):=by
 obtain ⟨hu,hst,he,⟨b2,rfl,hm⟩,hvs,hv0⟩:=hR
 obtain rfl:=hv0 k.v
 clear hvs
 refine Cal.en Tryz.func254 rfl Tryz.ntmps254<|WC.block<|WC.rs<|WL.m rfl<|WL.f (Fr.ncP rfl)<|WL.q 11 rfl fa209_11<|WL.q 13 rfl fa42_2<|WL.r (Rd.ld rfl sc4 (hp.cell rfl))<|WL.m rfl ?_
 refine WL.pin 17 rfl (fun hp17=>?_) (fun hp17=>?_)
 ·have c1:p.time.closed = true ∨ p.valid = true:=.inl hp17
  refine WL.s<|WL.s<|WL.s<|WL.s<|WL.f (Fr.pkT rfl rfl)<|WL.a rfl<|WL.go<|WC.condT<|WC.rs<|WL.m rfl ?_
  refine WL.e (Ef.call rfl en249 (read_answer _ hp hu hm k) (fun _ h=>h)) ?_
  rintro _ t1 ⟨s1,vv2,hp,hvs,hv1⟩
  obtain ⟨he,hm,hst,hu⟩:=Q4 (he.n s1) (hm.n s1) (hst.n s1) (hu.n s1)
  refine WL.go<|WC.rg<|WL.m rfl<|WL.f (Fr.ncP rfl)<|WL.q 4 rfl fa209_4<|WL.e0 (Ef.T [.int .i64 8] rfl rfl hp sz3 (.inr rfl)) ?_
  rintro _ t2 ⟨u2,s2,hp'⟩
  have hp:Bk t2 b1 [.int .i64 ((rAnswer p).who:Int),uv,.int .i64 (rAnswer p).of_,sv,.int .i64 8,.int .i64 ((rAnswer p).at_:Int),.int .i64 (rAnswer p).tries,ev,.bool (rAnswer p).valid,.bool (rAnswer p).spent,.map (some b2),.int .u64 (rAnswer p).time.now,.int .u64 (rAnswer p).time.seq,.bool (rAnswer p).time.closed,.int .i64 (rAnswer p).looked,.int .i64 (rAnswer p).placed,.int .i64 (rAnswer p).err,vv2,.slice none 0 0,.bool false] _ _:=hp'
  clear hp'
  obtain ⟨he,hm,hst,hu,hvs⟩:=Q5 (he.n s2) (hm.n s2) (hst.n s2) (hu.n s2) (hvs.n s2)
  exact WL.nil<|WQ.bn<|WQ.end_ rfl .nil (by unfold rJudge; rw [if_pos c1]; obtain ⟨e1,e2,e3,e4⟩:=rAnswer_same p; exact ⟨_,_,_,_,_,hp,⟨by rw [← e1] at hu; exact hu,by rw [← e2] at hst; exact hst,by rw [← e3] at he; exact he,⟨b2,rfl,by rw [← e4] at hm; exact hm⟩,hvs,hv1⟩⟩)
 have c2:¬ p.time.closed = true:=by rw [show p.time.closed = false from hp17]; decide
 refine WL.m rfl<|WL.f (Fr.ncP rfl)<|WL.q 8 rfl fa209_8<|WL.r (Rd.ld rfl sc4 (hp.cell rfl))<|WL.f (Fr.pkF rfl rfl)<|WL.a rfl<|WL.go ?_
 refine WC.condS rfl (fun hcond11=>?_) (fun hcond11=>?_)
 ·have c1:p.time.closed = true ∨ p.valid = true:=.inr hcond11
  refine WC.rs<|WL.m rfl<|WL.e (Ef.call rfl en249 (read_answer _ hp hu hm k) (fun _ h=>h)) ?_
  rintro _ t3 ⟨s3,vv2,hp,hvs,hv1⟩
  obtain ⟨he,hm,hst,hu⟩:=Q4 (he.n s3) (hm.n s3) (hst.n s3) (hu.n s3)
  refine WL.go<|WC.rg<|WL.m rfl<|WL.f (Fr.ncP rfl)<|WL.q 4 rfl fa209_4<|WL.e0 (Ef.T [.int .i64 8] rfl rfl hp sz3 (.inr rfl)) ?_
  rintro _ t4 ⟨u4,s4,hp'⟩
  have hp:Bk t4 b1 [.int .i64 ((rAnswer p).who:Int),uv,.int .i64 (rAnswer p).of_,sv,.int .i64 8,.int .i64 ((rAnswer p).at_:Int),.int .i64 (rAnswer p).tries,ev,.bool (rAnswer p).valid,.bool (rAnswer p).spent,.map (some b2),.int .u64 (rAnswer p).time.now,.int .u64 (rAnswer p).time.seq,.bool (rAnswer p).time.closed,.int .i64 (rAnswer p).looked,.int .i64 (rAnswer p).placed,.int .i64 (rAnswer p).err,vv2,.slice none 0 0,.bool false] _ _:=hp'
  clear hp'
  obtain ⟨he,hm,hst,hu,hvs⟩:=Q5 (he.n s4) (hm.n s4) (hst.n s4) (hu.n s4) (hvs.n s4)
  exact WL.nil<|WQ.bn<|WQ.end_ rfl .nil (by unfold rJudge; rw [if_pos c1]; obtain ⟨e1,e2,e3,e4⟩:=rAnswer_same p; exact ⟨_,_,_,_,_,hp,⟨by rw [← e1] at hu; exact hu,by rw [← e2] at hst; exact hst,by rw [← e3] at he; exact he,⟨b2,rfl,by rw [← e4] at hm; exact hm⟩,hvs,hv1⟩⟩)
 have c3:¬ p.valid = true:=by rw [show p.valid = false from hcond11]; decide
 have c4:¬ (p.time.closed = true ∨ p.valid = true):=fun h=>h.elim c2 c3
 refine WC.rs<|WL.m rfl<|WL.f (Fr.ncP rfl)<|WL.q 9 rfl fa209_9<|WL.r (Rd.ld rfl sc4 (hp.cell rfl))<|WL.m rfl ?_
 refine WL.pin 33 rfl (fun hp33=>?_) (fun hp33=>?_)
 ·have d1:p.spent = true ∨ p.tries = 0:=.inl hp33
  refine WL.s<|WL.s<|WL.s<|WL.s<|WL.s<|WL.f (Fr.pkT rfl rfl)<|WL.a rfl<|WL.go<|WC.condT<|WC.rg ?_
  refine WL.m rfl<|WL.f (Fr.ncP rfl)<|WL.q 4 rfl fa209_4<|WL.e0 (Ef.T [.int .i64 4] rfl rfl hp sz3 (.inr rfl)) ?_
  rintro _ t5 ⟨u5,s5,hp'⟩
  have hp:Bk t5 b1 [.int .i64 (p.who:Int),uv,.int .i64 p.of_,sv,.int .i64 4,.int .i64 (p.at_:Int),.int .i64 p.tries,ev,.bool p.valid,.bool p.spent,.map (some b2),.int .u64 p.time.now,.int .u64 p.time.seq,.bool p.time.closed,.int .i64 p.looked,.int .i64 p.placed,.int .i64 p.err,.slice none 0 0,.slice none 0 0,.bool false] _ _:=hp'
  clear hp'
  obtain ⟨he,hm,hst,hu⟩:=Q4 (he.n s5) (hm.n s5) (hst.n s5) (hu.n s5)
  exact WL.nil<|WQ.bn<|WQ.end_ rfl .nil (by unfold rJudge; rw [if_neg c4,if_pos d1]; exact ⟨_,_,_,_,_,hp,hu,hst,he,⟨b2,rfl,hm⟩,by show Sl _ kPres _ p.values; rw [k.v]; exact Sl.nil _ _ _ _,fun _=>rfl⟩)
 have d2:¬ p.spent = true:=by rw [show p.spent = false from hp33]; decide
 refine WL.m rfl<|WL.f (Fr.ncP rfl)<|WL.q 6 rfl fa209_6<|WL.r (Rd.ld rfl sc3 (hp.cell rfl))<|WL.f (Fr.bo rfl rfl BO.eq)<|WL.f (Fr.pkF rfl rfl)<|WL.a rfl<|WL.go ?_
 refine WC.condS rfl (fun hcond28=>?_) (fun hcond28=>?_)
 ·have d1:p.spent = true ∨ p.tries = 0:=.inr (dcT hcond28)
  refine WC.rg<|WL.m rfl<|WL.f (Fr.ncP rfl)<|WL.q 4 rfl fa209_4<|WL.e0 (Ef.T [.int .i64 4] rfl rfl hp sz3 (.inr rfl)) ?_
  rintro _ t6 ⟨u6,s6,hp'⟩
  have hp:Bk t6 b1 [.int .i64 (p.who:Int),uv,.int .i64 p.of_,sv,.int .i64 4,.int .i64 (p.at_:Int),.int .i64 p.tries,ev,.bool p.valid,.bool p.spent,.map (some b2),.int .u64 p.time.now,.int .u64 p.time.seq,.bool p.time.closed,.int .i64 p.looked,.int .i64 p.placed,.int .i64 p.err,.slice none 0 0,.slice none 0 0,.bool false] _ _:=hp'
  clear hp'
  obtain ⟨he,hm,hst,hu⟩:=Q4 (he.n s6) (hm.n s6) (hst.n s6) (hu.n s6)
  exact WL.nil<|WQ.bn<|WQ.end_ rfl .nil (by unfold rJudge; rw [if_neg c4,if_pos d1]; exact ⟨_,_,_,_,_,hp,hu,hst,he,⟨b2,rfl,hm⟩,by show Sl _ kPres _ p.values; rw [k.v]; exact Sl.nil _ _ _ _,fun _=>rfl⟩)
 have d4:¬ (p.spent = true ∨ p.tries = 0):=fun h=>h.elim d2 (dcF hcond28)
 refine WC.rs<|WL.m rfl<|WL.f (Fr.ncP rfl)<|WL.q 6 rfl fa209_6<|WL.r (Rd.ld rfl sc3 (hp.cell rfl))<|WL.f (Fr.bo rfl rfl (BO.sub (by omega) (by omega)))<|WL.f (Fr.ncP rfl)<|WL.q 6 rfl fa209_6<|WL.e0 (Ef.T [.int .i64 (p.tries - 1)] rfl rfl hp sz3 (.inr rfl)) ?_
 rintro _ t7 ⟨u7,s7,hp'⟩
 have hp:Bk t7 b1 [.int .i64 (p.who:Int),uv,.int .i64 p.of_,sv,.int .i64 (p.phase:Int),.int .i64 (p.at_:Int),.int .i64 (p.tries - 1),ev,.bool p.valid,.bool p.spent,.map (some b2),.int .u64 p.time.now,.int .u64 p.time.seq,.bool p.time.closed,.int .i64 p.looked,.int .i64 p.placed,.int .i64 p.err,.slice none 0 0,.slice none 0 0,.bool false] _ _:=hp'
 clear hp'
 obtain ⟨hst,hu⟩:=Q2 (hst.n s7) (hu.n s7)
 refine WL.go<|WC.rg<|WL.m rfl<|WL.e (Ef.call rfl en94 (read_begin (p:={ p with tries:=p.tries - 1 }) _ hp hst hsl) (fun _ h=>h)) ?_
 rintro _ t8 ⟨s8,ev2,b3,hp,he2,hm2⟩
 obtain ⟨hst,hu⟩:=Q2 (hst.n s8) (hu.n s8)
 exact WL.nil<|WQ.bn<|WQ.end_ rfl .nil (by unfold rJudge; rw [if_neg c4,if_neg d4]; exact ⟨_,_,_,_,_,hp,hu,hst,he2,⟨b3,rfl,hm2⟩,by show Sl _ kPres _ p.values; rw [k.v]; exact Sl.nil _ _ _ _,fun _=>rfl⟩)
theorem read_New {b who a:Nat} {x:Opr} {h:HallS} {uv:Value} (t:TW) (hH:IsHall t b h) (hu:Sl t kStr uv x.users) (hul:x.users.length ≤ 900) (hus:x.user.size ≤ 1000000) (huz:∀ u ∈ x.users,u.size ≤ 1000000) (hn:h.cfg.stripes ≤ 1000000):Cal 77 [.pointer (some ⟨b,0,none⟩),.int .i64 (who:Int),.agg (opC x uv).toArray] t (fun z=>z = .obj a 0) (fun r t' => ∃ b1,r = .pointer (some ⟨b1,0,none⟩) ∧ t.w.heap.size ≤ b1 ∧ IsRd t' a b1 (rNew who x h.cfg.stripes h.cfg.retries)):=by
 have hsz:∀ u ∈ rUsers x,u.size ≤ 1000000:=fun u hm=>(rUsers_mem hm).elim (fun e=>by rw [e]; exact hus) (huz u)
 have hrl:=rUsers_len x
 have hsl:(stripesIn (rUsers x) h.cfg.stripes).length ≤ 1000:=by unfold stripesIn; rw [List.length_map]; exact Nat.le_trans (List.length_filter_le _ _) (by simp)
 refine Cal.en Tryz.func77 rfl Tryz.ntmps77<|WC.rs<|WL.e (Ef.bx (.fz) (cs:=[.int .i64 x.kind,.string x.user,.int .i64 x.id,.int .i64 x.status,.int .i64 x.prio,.int .u64 x.ttl,uv]) rfl) ?_
 rintro _ t1 ⟨b5,rfl,s1,hb5,nb5,mb5⟩
 obtain ⟨hH,hu⟩:=Q2 (hH.n s1) (hu.n s1)
 refine WL.a rfl<|WL.go<|WC.rs<|WL.m rfl<|WL.r (Rd.la rfl ag56 (hb5.at (vs:=[.int .i64 x.kind,.string x.user,.int .i64 x.id,.int .i64 x.status,.int .i64 x.prio,.int .u64 x.ttl,uv]) rfl))<|WL.e (Ef.call rfl en18 (model_Users x uv _ hu (by omega)) (fun _ h=>h.elim)) ?_
 rintro v10 t2 ⟨s2,hv10⟩
 obtain ⟨hH,hb5,hu⟩:=Q3 (hH.n s2) (hb5.n s2) (hu.n s2)
 obtain ⟨A10,c10,rfl,_⟩:=hv10.form
 refine WL.m rfl<|WL.e (Ef.call rfl en82 (hall_Config _ hH) (fun _ h=>h.elim)) ?_
 rintro _ t3 ⟨s3,rfl⟩
 obtain ⟨hH,hb5,hu,hv10⟩:=Q4 (hH.n s3) (hb5.n s3) (hu.n s3) (hv10.n s3)
 refine WL.f (Fr.fd1 rfl Tryz.underlying24 rfl sc3 rfl)<|WL.m rfl<|WL.e (Ef.call rfl en82 (hall_Config _ hH) (fun _ h=>h.elim)) ?_
 rintro _ t4 ⟨s4,rfl⟩
 obtain ⟨hH,hb5,hu,hv10⟩:=Q4 (hH.n s4) (hb5.n s4) (hu.n s4) (hv10.n s4)
 refine WL.f (Fr.fd1 rfl Tryz.underlying24 rfl sc3 rfl)<|WL.f (Fr.bd (vs:=[(0,.int .i64 (who:Int)),(1,.slice A10 (usersOf x).length c10),(2,.int .i64 h.cfg.stripes),(13,.int .i64 (-1)),(6,.int .i64 h.cfg.retries)]) (cs:=#[.int .i64 (who:Int),.slice A10 (usersOf x).length c10,.int .i64 h.cfg.stripes,.slice none 0 0,.int .i64 0,.int .i64 0,.int .i64 h.cfg.retries,.slice none 0 0,.bool false,.bool false,.map none,.int .u64 0,.int .u64 0,.bool false,.int .i64 0,.int .i64 (-1),.int .i64 0,.slice none 0 0,.slice none 0 0,.bool false]) rfl (fun w=>by kernel_rfl))<|WL.e (Ef.bx (.obj a 0) (cs:=[.int .i64 (who:Int),.slice A10 (usersOf x).length c10,.int .i64 h.cfg.stripes,.slice none 0 0,.int .i64 0,.int .i64 0,.int .i64 h.cfg.retries,.slice none 0 0,.bool false,.bool false,.map none,.int .u64 0,.int .u64 0,.bool false,.int .i64 0,.int .i64 (-1),.int .i64 0,.slice none 0 0,.slice none 0 0,.bool false]) rfl) ?_
 rintro _ t5 ⟨b18,rfl,s5,hb18,nb18,mb18⟩
 obtain ⟨hH,hb5,hu,hv10⟩:=Q4 (hH.n s5) (hb5.n s5) (hu.n s5) (hv10.n s5)
 refine WL.a rfl<|WL.go ?_
 refine WC.seqJ (σ:=Unit) (fun _ t' => IsHall t' b h ∧ Sl t' kStr uv x.users ∧ Bk t' b5 [.int .i64 x.kind,.string x.user,.int .i64 x.id,.int .i64 x.status,.int .i64 x.prio,.int .u64 x.ttl,uv] 56 (.fz) ∧ (∃ Au cu,Bk t' b18 [.int .i64 (who:Int),.slice Au (rUsers x).length cu,.int .i64 h.cfg.stripes,.slice none 0 0,.int .i64 0,.int .i64 0,.int .i64 h.cfg.retries,.slice none 0 0,.bool false,.bool false,.map none,.int .u64 0,.int .u64 0,.bool false,.int .i64 0,.int .i64 (-1),.int .i64 0,.slice none 0 0,.slice none 0 0,.bool false] 209 (.obj a 0) ∧ Sl t' kStr (.slice Au (rUsers x).length cu) (rUsers x)) ∧ True) (fun _=>[(0,.pointer (some ⟨b,0,none⟩)),(6,.pointer none),(7,.pointer (some ⟨b18,0,none⟩))]) ?_ ?_
 ·refine WC.rs<|WL.r (Rd.la rfl ag56 (hb5.at (vs:=[.int .i64 x.kind,.string x.user,.int .i64 x.id,.int .i64 x.status,.int .i64 x.prio,.int .u64 x.ttl,uv]) rfl))<|WL.e (Ef.call rfl en92 (model_Bad x uv _ hu (by omega)) (fun _ h=>h.elim)) ?_
  rintro _ t6 ⟨s6,rfl⟩
  obtain ⟨hH,hb18,hb5,hu,hv10⟩:=Q5 (hH.n s6) (hb18.n s6) (hb5.n s6) (hu.n s6) (hv10.n s6)
  refine WL.go ?_
  refine WC.condS rfl (fun hcond20=>?_) (fun hcond20=>?_)
  ·refine WC.rg<|WL.m rfl<|WL.f (Fr.ncP rfl)<|WL.q 1 rfl fa209_1<|WL.e0 (Ef.T [.slice none 0 0] rfl rfl hb18 sz54 (.inl nb18)) ?_
   rintro _ t7 ⟨u7,s7,hb18'⟩
   have hb18:Bk t7 b18 [.int .i64 (who:Int),.slice none 0 0,.int .i64 h.cfg.stripes,.slice none 0 0,.int .i64 0,.int .i64 0,.int .i64 h.cfg.retries,.slice none 0 0,.bool false,.bool false,.map none,.int .u64 0,.int .u64 0,.bool false,.int .i64 0,.int .i64 (-1),.int .i64 0,.slice none 0 0,.slice none 0 0,.bool false] _ _:=hb18'
   clear hb18'
   obtain ⟨hH,hb5,hu⟩:=Q3 (hH.n s7) (hb5.n s7) (hu.n s7)
   refine WL.nil ?_
   have hbad:badOp x = true:=hcond20
   have eu:rUsers x = []:=by unfold rUsers; rw [if_pos hbad]
   have hI:(∃ Au cu,Bk t7 b18 [.int .i64 (who:Int),.slice Au (rUsers x).length cu,.int .i64 h.cfg.stripes,.slice none 0 0,.int .i64 0,.int .i64 0,.int .i64 h.cfg.retries,.slice none 0 0,.bool false,.bool false,.map none,.int .u64 0,.int .u64 0,.bool false,.int .i64 0,.int .i64 (-1),.int .i64 0,.slice none 0 0,.slice none 0 0,.bool false] 209 (.obj a 0) ∧ Sl t7 kStr (.slice Au (rUsers x).length cu) (rUsers x)):=⟨none,0,by rw [eu]; exact hb18,by rw [eu]; exact Sl.nil _ _ _ _⟩
   exact WQ.join () ⟨rfl,rfl,rfl,trivial⟩ ⟨hH,hu,hb5,hI,trivial⟩
  refine WC.skip ?_
  have hbad:¬ badOp x = true:=by rw [show badOp x = false from hcond20]; decide
  have eu:rUsers x = usersOf x:=by unfold rUsers; rw [if_neg hbad]
  have hI:(∃ Au cu,Bk t6 b18 [.int .i64 (who:Int),.slice Au (rUsers x).length cu,.int .i64 h.cfg.stripes,.slice none 0 0,.int .i64 0,.int .i64 0,.int .i64 h.cfg.retries,.slice none 0 0,.bool false,.bool false,.map none,.int .u64 0,.int .u64 0,.bool false,.int .i64 0,.int .i64 (-1),.int .i64 0,.slice none 0 0,.slice none 0 0,.bool false] 209 (.obj a 0) ∧ Sl t6 kStr (.slice Au (rUsers x).length cu) (rUsers x)):=⟨_,_,by rw [eu]; exact hb18,by rw [eu]; exact hv10⟩
  exact WQ.join () ⟨rfl,rfl,rfl,trivial⟩ ⟨hH,hu,hb5,hI,trivial⟩
 rintro _ t8 ⟨hH,hu,hb5,hI,_⟩
 obtain ⟨Au,cu,hb18,hv10⟩:=hI
 refine WC.drs (fun w=>At w b18 1 [.slice Au (rUsers x).length cu] ∧ True) .body (⟨hb18.at rfl,trivial⟩) ?_
 obtain ⟨hH,hb18,hv10⟩:=Q3 (hH.n (TW.drew_step _)) (hb18.n (TW.drew_step _)) (hv10.n (TW.drew_step _))
 refine DL.m 0 rfl rfl<|DL.m 1 rfl rfl<|DL.fx 2 rfl (Fr.ncP rfl)<|DL.fx 3 rfl (Fr.q 1 rfl fa209_1)<|DL.m 5 rfl rfl<|DL.hx 4 rfl (fun w hw=>Rd.ld rfl sc54 (hw.1.one rfl))<|DL.ex 6 rfl (Ef.call rfl en82 (hall_Config _ hH) (fun _ h=>h.elim)) (fun _ _ ⟨s,_⟩=>⟨hb18.a s,trivial⟩) ?_
 rintro _ t9 ⟨s9,rfl⟩
 obtain ⟨hb18,hv10⟩:=Q2 (hb18.n s9) (hv10.n s9)
 refine DL.fx 7 rfl (Fr.fd1 rfl Tryz.underlying24 rfl sc3 rfl)<|DL.ex 8 rfl (Ef.call rfl en93 (hash_Stripes _ hv10 (by omega) hsz hn) (fun _ h=>h.elim)) (fun _ _ ⟨s,_⟩=>⟨hb18.a s,trivial⟩) ?_
 rintro v32 t10 ⟨s10,hst⟩
 obtain ⟨hb18,hv10⟩:=Q2 (hb18.n s10) (hv10.n s10)
 obtain ⟨A32,c32,rfl,_⟩:=hst.form
 refine DL.fx 9 rfl (Fr.ncP rfl)<|DL.fx 10 rfl (Fr.q 3 rfl fa209_3)<|DL.e0x 11 rfl (Ef.T [.slice A32 (stripesIn (rUsers x) h.cfg.stripes).length c32] rfl rfl hb18 sz37 (.inl nb18)) (fun _ _ ⟨_,_,hb⟩=>⟨hb.at rfl,trivial⟩) ?_
 rintro _ t11 ⟨u11,s11,hb18'⟩
 have hb18:Bk t11 b18 [.int .i64 (who:Int),.slice Au (rUsers x).length cu,.int .i64 h.cfg.stripes,.slice A32 (stripesIn (rUsers x) h.cfg.stripes).length c32,.int .i64 0,.int .i64 0,.int .i64 h.cfg.retries,.slice none 0 0,.bool false,.bool false,.map none,.int .u64 0,.int .u64 0,.bool false,.int .i64 0,.int .i64 (-1),.int .i64 0,.slice none 0 0,.slice none 0 0,.bool false] _ _:=hb18'
 clear hb18'
 obtain ⟨hst,hv10⟩:=Q2 (hst.n s11) (hv10.n s11)
 refine DL.D<|WQ.n<|WC.rs<|WL.m rfl ?_
 have hp:Bk _ b18 (rC (⟨who,rUsers x,h.cfg.stripes,stripesIn (rUsers x) h.cfg.stripes,0,0,h.cfg.retries,[],false,false,[],zTime,0,-1,0,[]⟩:RProc) (.slice Au (rUsers x).length cu) (.slice A32 (stripesIn (rUsers x) h.cfg.stripes).length c32) (.slice none 0 0) (.map none) (.slice none 0 0)) 209 (.obj a 0):=hb18
 refine WL.e (Ef.call rfl en94 (read_begin (p:=(⟨who,rUsers x,h.cfg.stripes,stripesIn (rUsers x) h.cfg.stripes,0,0,h.cfg.retries,[],false,false,[],zTime,0,-1,0,[]⟩:RProc)) _ hp hst hsl) (fun _ h=>h)) ?_
 rintro _ t12 ⟨s12,ev2,b3,hp,he,hm⟩
 obtain ⟨hst,hv10⟩:=Q2 (hst.n s12) (hv10.n s12)
 exact WL.go<|WC.rs<|WL.m rfl<|WL.a rfl<|WL.go<|WC.ret<|WQ.ret rfl (.tmp rfl .nil) (⟨_,rfl,nb18,_,_,_,_,_,hp,hv10,hst,he,⟨b3,rfl,hm⟩,Sl.nil _ _ _ _,fun _=>rfl⟩)
structure ROk (h:HallS) (p:RProc):Prop where
 ha:h.acts.length ≤ 899000
 hs8:h.strs.length ≤ 8
 hw:p.who ≤ 1000
 ph:p.phase ≤ 8
 at_:p.at_ < p.stripes.length
 sl:p.stripes.length ≤ 8
 st:∃ s:Nat,p.stripes[p.at_]? = some (s:Int) ∧ s < h.strs.length
 ep:p.epochs.length = p.stripes.length
 er:∀ e ∈ p.epochs,0 ≤ e ∧ e ≤ 18446744073709551615
 tr:0 ≤ p.tries ∧ p.tries ≤ 1000
 cr:0 ≤ h.cfg.epochs ∧ h.cfg.epochs ≤ 18446744073709551615
 lt:∀ s,s < h.strs.length → 0 ≤ (hStr h s).latch ∧ (hStr h s).latch ≤ 1000
 an:AOk p
abbrev rT (i:Nat):Tag → Prop:=fun z=>z = .hall ∨ z = .acts ∨ z = .strs ∨ z = .obj i 0 ∨ z = .ep i 0 ∨ z = .mp i 0
theorem rT3 {i:Nat}:∀ z,(z = .hall ∨ z = .acts ∨ z = .strs) → rT i z:=fun z h=>by rcases h with h | h | h <;> simp [rT,h]
theorem rT2 {i:Nat}:∀ z,(z = .hall ∨ z = .acts) → rT i z:=fun z h=>by rcases h with h | h <;> simp [rT,h]
theorem rTo {i:Nat}:rT i (.obj i 0):=.inr (.inr (.inr (.inl rfl)))
theorem RdP.next {t:TW} {i:Nat} {p:RProc} {uv sv ev mv vv:Value} (h:RdP t i p uv sv ev mv vv) (ph:Nat):RdP t i (rNext p ph).1 uv sv ev mv vv:=by
 unfold rNext
 split <;> exact ⟨h.us,h.st,h.ep,h.mp,h.vs,h.v0⟩
theorem AOk.next {p:RProc} (h:AOk p) (ph:Nat):AOk (rNext p ph).1:=by
 unfold rNext
 split <;> exact ⟨h.ul,h.us,h.of_,h.bk,h.v⟩
theorem rNext_same (p:RProc) (ph:Nat):(rNext p ph).1.tries = p.tries ∧ (rNext p ph).1.stripes = p.stripes:=by
 unfold rNext
 split <;> exact ⟨rfl,rfl⟩
theorem rStep_do {h:HallS} {p:RProc} {pos:Int} (h1:rEnabled h p = true) (h2:p.stripes ≠ []):rStep h p pos = rDo h p pos:=by
 unfold rStep
 rw [if_neg (by simp [h1]),if_neg h2]
theorem read_Step {i b b1:Nat} {p:RProc} {h:HallS} (pos:Int) (t:TW) (hD:IsRd t i b1 p) (hH:IsHall t b h) (hl4:p.phase = 4 → p.at_ < p.stripes.length) (hs:∀ s:Nat,rWaits p = (s:Int) → s < h.strs.length) (hs8:h.strs.length ≤ 8) (hk:rEnabled h p = true → p.stripes ≠ [] → ROk h p):Cal 247 [.pointer (some ⟨b1,0,none⟩),.pointer (some ⟨b,0,none⟩),.int .i64 pos] t (rT i) (fun r t' => IsHall t' b (rStep h p pos).1 ∧ IsRd t' i b1 (rStep h p pos).2):=by
 obtain ⟨uv,sv,ev,mv,vv,hp,hu,hst,he,⟨b2,rfl,hm⟩,hvs,hv0⟩:=hD
 obtain ⟨As,cs,rfl,_⟩:=hst.form
 refine Cal.en Tryz.func247 rfl Tryz.ntmps247<|WC.seq<|WC.rs<|WL.m rfl<|WL.m rfl<|WL.e (Ef.call rfl en244 (read_Enabled _ hp hst hl4 hH hs hs8) (fun _ h=>h.elim)) ?_
 rintro _ t1 ⟨s1,rfl⟩
 obtain ⟨hH,he,hm,hp,hst,hu,hvs⟩:=Q7 (hH.n s1) (he.n s1) (hm.n s1) (hp.n s1) (hst.n s1) (hu.n s1) (hvs.n s1)
 refine WL.f (Fr.un_not rfl)<|WL.go ?_
 refine WC.condS rfl (fun hcond11=>?_) (fun hcond11=>?_)
 ·have hen:rEnabled h p = false:=by simpa using hcond11
  exact WC.ret<|WQ.tr<|WQ.ret rfl .nil (by unfold rStep; rw [if_pos hen]; exact ⟨hH,_,_,_,_,_,hp,hu,hst,he,⟨b2,rfl,hm⟩,hvs,hv0⟩)
 have hen:rEnabled h p = true:=by simpa using hcond11
 refine WC.skip<|WQ.n<|WC.seq<|WC.rs<|WL.m rfl<|WL.f (Fr.ncP rfl)<|WL.q 3 rfl fa209_3<|WL.r (Rd.ld rfl sc37 (hp.cell rfl))<|WL.f (Fr.ln rfl Tryz.underlying37)<|WL.f (Fr.bo rfl rfl BO.eq) ?_
 refine WL.go ?_
 refine WC.condS rfl (fun hcond17=>?_) (fun hcond17=>?_)
 ·have hne:p.stripes = []:=by have:=dcT hcond17; exact List.eq_nil_of_length_eq_zero (by omega)
  refine WC.rs<|WL.m rfl<|WL.m rfl<|WL.m rfl<|WL.f (Fr.bd (vs:=[(0,.int .i64 1)]) (cs:=#[.int .i64 1,.slice none 0 0,.slice none 0 0,.bool false]) rfl (fun w=>by kernel_rfl))<|WL.m rfl<|WL.f (Fr.ncP rfl)<|WL.q 16 rfl fa209_14<|WL.e0 (Ef.T [.int .i64 1,.slice none 0 0,.slice none 0 0,.bool false] rfl rfl hp sz59 (.inr rTo)) ?_
  rintro _ t2 ⟨u2,s2,hp'⟩
  have hp:Bk t2 b1 [.int .i64 (p.who:Int),uv,.int .i64 p.of_,.slice As p.stripes.length cs,.int .i64 (p.phase:Int),.int .i64 (p.at_:Int),.int .i64 p.tries,ev,.bool p.valid,.bool p.spent,.map (some b2),.int .u64 p.time.now,.int .u64 p.time.seq,.bool p.time.closed,.int .i64 p.looked,.int .i64 p.placed,.int .i64 1,.slice none 0 0,.slice none 0 0,.bool false] _ _:=hp'
  clear hp'
  obtain ⟨hH,he,hm,hst,hu⟩:=Q5 (hH.n s2) (he.n s2) (hm.n s2) (hst.n s2) (hu.n s2)
  refine WL.f (Fr.ncP rfl)<|WL.q 15 rfl fa209_13<|WL.e0 (Ef.T [.int .i64 pos] rfl rfl hp sz3 (.inr rTo)) ?_
  rintro _ t3 ⟨u3,s3,hp'⟩
  have hp:Bk t3 b1 [.int .i64 (p.who:Int),uv,.int .i64 p.of_,.slice As p.stripes.length cs,.int .i64 (p.phase:Int),.int .i64 (p.at_:Int),.int .i64 p.tries,ev,.bool p.valid,.bool p.spent,.map (some b2),.int .u64 p.time.now,.int .u64 p.time.seq,.bool p.time.closed,.int .i64 p.looked,.int .i64 pos,.int .i64 1,.slice none 0 0,.slice none 0 0,.bool false] _ _:=hp'
  clear hp'
  obtain ⟨hH,he,hm,hst,hu⟩:=Q5 (hH.n s3) (he.n s3) (hm.n s3) (hst.n s3) (hu.n s3)
  refine WL.f (Fr.ncP rfl)<|WL.q 4 rfl fa209_4<|WL.e0 (Ef.T [.int .i64 8] rfl rfl hp sz3 (.inr rTo)) ?_
  rintro _ t4 ⟨u4,s4,hp'⟩
  have hp:Bk t4 b1 [.int .i64 (p.who:Int),uv,.int .i64 p.of_,.slice As p.stripes.length cs,.int .i64 8,.int .i64 (p.at_:Int),.int .i64 p.tries,ev,.bool p.valid,.bool p.spent,.map (some b2),.int .u64 p.time.now,.int .u64 p.time.seq,.bool p.time.closed,.int .i64 p.looked,.int .i64 pos,.int .i64 1,.slice none 0 0,.slice none 0 0,.bool false] _ _:=hp'
  clear hp'
  obtain ⟨hH,he,hm,hst,hu⟩:=Q5 (hH.n s4) (he.n s4) (hm.n s4) (hst.n s4) (hu.n s4)
  exact WL.go<|WC.ret<|WQ.tr<|WQ.ret rfl .nil (by unfold rStep; rw [if_neg (by simp [hen]),if_pos hne]; exact ⟨hH,_,_,_,_,_,hp,hu,hst,he,⟨b2,rfl,hm⟩,Sl.nil _ _ _ _,fun _=>rfl⟩)
 have hne:p.stripes ≠ []:=by intro e; have:=dcF hcond17; rw [e] at this; exact this rfl
 have k:=hk hen hne
 have hlt:=k.at_
 obtain ⟨s0,hs0,hsl⟩:=k.st
 have hrs:p.stripes[p.at_] = (rS p:Int):=by rw [List.getElem?_eq_getElem hlt] at hs0; have e:=Option.some.inj hs0; unfold rS; rw [getD_at (List.getElem?_eq_getElem hlt),e]; simp
 have hsl:rS p < h.strs.length:=by rw [List.getElem?_eq_getElem hlt] at hs0; have e:=Option.some.inj hs0; rw [e] at hrs; omega
 refine WC.skip<|WQ.n<|WC.drs (fun w=>At w b1 3 [.slice As p.stripes.length cs] ∧ True) .body (⟨hp.at rfl,trivial⟩) ?_
 obtain ⟨hH,he,hm,hp,hst,hu,hvs⟩:=Q7 (hH.n (TW.drew_step _)) (he.n (TW.drew_step _)) (hm.n (TW.drew_step _)) (hp.n (TW.drew_step _)) (hst.n (TW.drew_step _)) (hu.n (TW.drew_step _)) (hvs.n (TW.drew_step _))
 refine DL.m 0 rfl rfl<|DL.fx 1 rfl (Fr.ncP rfl)<|DL.fx 2 rfl (Fr.q 3 rfl fa209_3)<|DL.m 4 rfl rfl<|DL.fx 5 rfl (Fr.ncP rfl)<|DL.fx 6 rfl (Fr.q 5 rfl fa209_5)<|DL.hx 3 rfl (fun w hw=>Rd.ld rfl sc37 (hw.1.one rfl))<|DL.rx 7 rfl (Rd.ld rfl sc3 (hp.cell rfl)) ?_
 obtain ⟨bq,oq,capq,cq,eq1,hcpq,hRq,hAq,hlbq,hfzq⟩:=hst.at_ (List.getElem?_eq_getElem hlt)
 obtain ⟨hAs,_,_⟩:=Value.slice.inj eq1
 obtain rfl:cq = [.int .i64 p.stripes[p.at_]]:=hRq
 refine DL.fx 8 rfl (Fr.ix (congrArg (fun A=>some (Value.slice A p.stripes.length cs)) hAs) rfl sl37 (by omega) (by omega) (o' := oq + p.at_ * 1) (by simp))<|DL.rx 9 rfl (Rd.ld rfl sc3 (hAq.one rfl))<|DL.re 38 (v' := .int .i64 (rS p:Int)) rfl (congrArg (Value.int .i64) hrs)<|DL.fx 10 rfl (Fr.as rfl)<|DL.D<|WQ.n<|WC.rs<|WL.m rfl<|WL.f (Fr.ncP rfl)<|WL.q 4 rfl fa209_4 ?_
 refine WL.r (Rd.ld rfl sc3 (hp.cell rfl))<|WL.go<|WC.block<|WC.rs<|WL.f (Fr.bo rfl rfl BO.eq)<|WL.a rfl<|WL.go ?_
 refine WC.condS rfl (fun hcond43=>?_) (fun hcond43=>?_)
 ·have hph:p.phase = 0:=by have:=dcT hcond43; omega
  obtain ⟨be,ce,cse,hev,_⟩:=he.block (by intro e; have h0:=k.ep; rw [e] at h0; have h1:=k.at_; rw [← h0] at h1; exact absurd h1 (Nat.not_lt_zero _))
  refine WC.drs (fun w=>At w b1 7 [ev] ∧ At w b1 5 [.int .i64 (p.at_:Int)] ∧ True) (.blk .body) (⟨hp.at rfl,hp.at rfl,trivial⟩) ?_
  obtain ⟨hH,he,hm,hp,hst,hu,hvs⟩:=Q7 (hH.n (TW.drew_step _)) (he.n (TW.drew_step _)) (hm.n (TW.drew_step _)) (hp.n (TW.drew_step _)) (hst.n (TW.drew_step _)) (hu.n (TW.drew_step _)) (hvs.n (TW.drew_step _))
  refine DL.m 0 rfl rfl<|DL.fx 1 rfl (Fr.ncP rfl)<|DL.fx 2 rfl (Fr.q 7 rfl fa209_7)<|DL.m 4 rfl rfl<|DL.fx 5 rfl (Fr.ncP rfl)<|DL.fx 6 rfl (Fr.q 5 rfl fa209_5)<|DL.m 8 rfl rfl<|DL.m 9 rfl rfl<|DL.fx 10 rfl (Fr.ncP rfl)<|DL.fx 11 rfl (Fr.q 0 rfl fa209_0) ?_
  refine DL.m 13 rfl rfl<|DL.hx 3 rfl (fun w hw=>Rd.ld rfl sc69 (hw.1.one rfl))<|DL.hx 7 rfl (fun w hw=>Rd.ld rfl sc3 (hw.2.1.one rfl))<|DL.rx 12 rfl (Rd.ld rfl sc3 (hp.cell rfl))<|DL.ex 14 rfl (Ef.call rfl en250 (hall_Epoch (p.who:Int) _ hH (Nat.le_trans k.ha (by decide)) hsl k.hs8) (rT2)) (fun _ _ ⟨s,_⟩=>⟨(hp.step s (by rintro (h | h) <;> cases h)).at rfl,(hp.step s (by rintro (h | h) <;> cases h)).at rfl,trivial⟩) ?_
  rintro _ t5 ⟨s5,rfl,hH⟩
  obtain ⟨he,hm,hp,hst,hu,hvs⟩:=Q6 (he.n s5) (hm.n s5) (hp.n s5) (hst.n s5) (hu.n s5) (hvs.n s5)
  refine DL.fx 15 rfl (Fr.ix (congrArg some hev) rfl sl69 (by omega) (by have:=k.ep; have:=k.at_; omega) (o' := p.at_) (by simp)) ?_
  have he0:=he
  rw [hev] at he0
  refine DL.e0x 16 rfl (Ef.stG (dk:=kInt .u64) (i:=p.at_) (j:=0) (x0:=p.epochs[p.at_]'(by rw [k.ep]; exact hlt)) (z:=(hStr h (rS p)).cv) rfl rfl he0 (by simp [kInt,Kn.flat]) (by simp [kInt,Kn.flat]) (List.getElem?_eq_getElem _) rfl (by simp [Value.oneCell']) (fun t' c st e=>by rw [show c = [_] from e]; rfl) sz22 rfl nofun (.inr (by simp [rT]))) (fun _ _ ⟨s,_⟩=>⟨hp.a s,hp.a s,trivial⟩) ?_
  rintro _ t6 ⟨s6,he⟩
  obtain ⟨hH,hm,hp,hst,hu,hvs⟩:=Q6 (hH.n s6) (hm.n s6) (hp.n s6) (hst.n s6) (hu.n s6) (hvs.n s6)
  rw [← hev] at he
  refine DL.D<|WQ.n<|WC.drs (fun w=>At w b1 7 [ev] ∧ At w b1 5 [.int .i64 (p.at_:Int)] ∧ True) (.blk .body) (⟨hp.at rfl,hp.at rfl,trivial⟩) ?_
  obtain ⟨hH,he,hm,hp,hst,hu,hvs⟩:=Q7 (hH.n (TW.drew_step _)) (he.n (TW.drew_step _)) (hm.n (TW.drew_step _)) (hp.n (TW.drew_step _)) (hst.n (TW.drew_step _)) (hu.n (TW.drew_step _)) (hvs.n (TW.drew_step _))
  refine DL.m 0 rfl rfl<|DL.m 1 rfl rfl<|DL.fx 2 rfl (Fr.ncP rfl)<|DL.fx 3 rfl (Fr.q 9 rfl fa209_9)<|DL.rx 4 rfl (Rd.ld rfl sc4 (hp.cell rfl))<|DL.m 5 rfl rfl ?_
  refine DL.pin 66 rfl (fun hp66=>?_) (fun hp66=>?_)
  focus
   have esp:(p.spent || decide (evenB h.cfg.epochs ≤ (hStr h (rS p)).cv)) = true:=by rw [show p.spent = true from hp66]; rfl
   refine DL.sx 6 rfl<|DL.sx 7 rfl<|DL.sx 8 rfl<|DL.sx 9 rfl<|DL.sx 10 rfl<|DL.sx 11 rfl<|DL.sx 12 rfl<|DL.sx 13 rfl<|DL.sx 14 rfl<|DL.sx 15 rfl ?_
   refine DL.sx 16 rfl<|DL.sx 17 rfl<|DL.sx 18 rfl<|DL.sx 19 rfl<|DL.sx 20 rfl<|DL.fx 21 rfl (Fr.pkT rfl rfl)<|DL.fx 22 rfl (Fr.ncP rfl)<|DL.fx 23 rfl (Fr.q 9 rfl fa209_9)<|DL.e0x 24 rfl (Ef.T [.bool true] rfl rfl hp sz4 (.inr rTo)) (fun _ _ ⟨_,_,hb⟩=>⟨hb.at rfl,hb.at rfl,trivial⟩) ?_
   rintro _ t7 ⟨u7,s7,hp'⟩
   have hp:Bk t7 b1 [.int .i64 (p.who:Int),uv,.int .i64 p.of_,.slice As p.stripes.length cs,.int .i64 (p.phase:Int),.int .i64 (p.at_:Int),.int .i64 p.tries,ev,.bool p.valid,.bool true,.map (some b2),.int .u64 p.time.now,.int .u64 p.time.seq,.bool p.time.closed,.int .i64 p.looked,.int .i64 p.placed,.int .i64 p.err,vv,.slice none 0 0,.bool false] _ _:=hp'
  rotate_left
  focus
   have esp:(p.spent || decide (evenB h.cfg.epochs ≤ (hStr h (rS p)).cv)) = decide (evenB h.cfg.epochs ≤ (hStr h (rS p)).cv):=by rw [show p.spent = false from hp66]; rfl
   refine DL.m 6 rfl rfl<|DL.fx 7 rfl (Fr.ncP rfl)<|DL.fx 8 rfl (Fr.q 7 rfl fa209_7)<|DL.m 10 rfl rfl<|DL.fx 11 rfl (Fr.ncP rfl)<|DL.fx 12 rfl (Fr.q 5 rfl fa209_5)<|DL.m 16 rfl rfl<|DL.hx 9 rfl (fun w hw=>Rd.ld rfl sc69 (hw.1.one rfl))<|DL.hx 13 rfl (fun w hw=>Rd.ld rfl sc3 (hw.2.1.one rfl))<|DL.fx 14 rfl (Fr.ix (congrArg some hev) rfl sl69 (by omega) (by have:=k.ep; have:=k.at_; omega) (o' := p.at_) (by simp)) ?_
   refine DL.e2 (i:=15) (j:=17) (by kernel_rfl) ?_ ?_
   focus
    obtain ⟨bw,capw,cw,ew1,_,ew2,hAw,_,_⟩:=he.at_ (show (p.epochs.set p.at_ (hStr h (rS p)).cv)[p.at_]? = some (hStr h (rS p)).cv by rw [List.getElem?_set_self (by rw [k.ep]; exact hlt)])
    obtain ⟨ew3,_,_⟩:=Value.slice.inj (hev.symm.trans ew1)
    obtain ⟨rfl,_⟩:=Addr.mk.inj (Option.some.inj ew3)
    obtain rfl:cw = [.int .u64 (hStr h (rS p)).cv]:=ew2
    rw [show p.at_ * (kInt .u64).k = p.at_ from Nat.mul_one _] at hAw
    refine DOp.r rfl (Rd.ld rfl sc22 (hAw.one rfl))<|DL.ex 17 rfl (Ef.call rfl en82 (hall_Config _ hH) (fun _ h=>h.elim)) (fun _ _ ⟨s,_⟩=>⟨hp.a s,hp.a s,trivial⟩) ?_
    rintro _ t9 ⟨s9,rfl⟩
    obtain ⟨hH,he,hm,hp,hst,hu,hvs⟩:=Q7 (hH.n s9) (he.n s9) (hm.n s9) (hp.n s9) (hst.n s9) (hu.n s9) (hvs.n s9)
    refine DL.fx 18 rfl (Fr.fd1 rfl Tryz.underlying24 rfl sc22 rfl)<|DL.fx 19 rfl (Fr.bo rfl rfl BO.andNot_)<|DL.re 80 (v' := .int .u64 (evenB h.cfg.epochs)) rfl (congrArg (Value.int .u64) (not1 k.cr.1 k.cr.2))<|DL.fx 20 rfl (Fr.bo rfl rfl BO.ge)<|DL.fx 21 rfl (Fr.pkF rfl rfl)<|DL.fx 22 rfl (Fr.ncP rfl)<|DL.fx 23 rfl (Fr.q 9 rfl fa209_9)<|DL.e0x 24 rfl (Ef.T [.bool (decide ((evenB h.cfg.epochs) ≤ ((hStr h (rS p)).cv)))] rfl rfl hp sz4 (.inr rTo)) (fun _ _ ⟨_,_,hb⟩=>⟨hb.at rfl,hb.at rfl,trivial⟩) ?_
    rintro _ t7 ⟨u10,s7,hp'⟩
   rotate_left
   focus
    refine DOp.e rfl (Ef.call rfl en82 (hall_Config _ hH) (fun _ h=>h.elim)) (fun _ _ ⟨s,_⟩=>⟨hp.a s,hp.a s,trivial⟩) ?_
    rintro _ t12 ⟨s12,rfl⟩
    obtain ⟨hH,he,hm,hp,hst,hu,hvs⟩:=Q7 (hH.n s12) (he.n s12) (hm.n s12) (hp.n s12) (hst.n s12) (hu.n s12) (hvs.n s12)
    refine DL.fx 18 rfl (Fr.fd1 rfl Tryz.underlying24 rfl sc22 rfl)<|DL.fx 19 rfl (Fr.bo rfl rfl BO.andNot_)<|DL.re 80 (v' := .int .u64 (evenB h.cfg.epochs)) rfl (congrArg (Value.int .u64) (not1 k.cr.1 k.cr.2)) ?_
    obtain ⟨bw,capw,cw,ew1,_,ew2,hAw,_,_⟩:=he.at_ (show (p.epochs.set p.at_ (hStr h (rS p)).cv)[p.at_]? = some (hStr h (rS p)).cv by rw [List.getElem?_set_self (by rw [k.ep]; exact hlt)])
    obtain ⟨ew3,_,_⟩:=Value.slice.inj (hev.symm.trans ew1)
    obtain ⟨rfl,_⟩:=Addr.mk.inj (Option.some.inj ew3)
    obtain rfl:cw = [.int .u64 (hStr h (rS p)).cv]:=ew2
    rw [show p.at_ * (kInt .u64).k = p.at_ from Nat.mul_one _] at hAw
    refine DL.rx 15 rfl (Rd.ld rfl sc22 (hAw.one rfl))<|DL.fx 20 rfl (Fr.bo rfl rfl BO.ge)<|DL.fx 21 rfl (Fr.pkF rfl rfl)<|DL.fx 22 rfl (Fr.ncP rfl)<|DL.fx 23 rfl (Fr.q 9 rfl fa209_9)<|DL.e0x 24 rfl (Ef.T [.bool (decide ((evenB h.cfg.epochs) ≤ ((hStr h (rS p)).cv)))] rfl rfl hp sz4 (.inr rTo)) (fun _ _ ⟨_,_,hb⟩=>⟨hb.at rfl,hb.at rfl,trivial⟩) ?_
    rintro _ t7 ⟨u13,s7,hp'⟩
   all_goals
    have hp:Bk t7 b1 [.int .i64 (p.who:Int),uv,.int .i64 p.of_,.slice As p.stripes.length cs,.int .i64 (p.phase:Int),.int .i64 (p.at_:Int),.int .i64 p.tries,ev,.bool p.valid,.bool (decide ((evenB h.cfg.epochs) ≤ ((hStr h (rS p)).cv))),.map (some b2),.int .u64 p.time.now,.int .u64 p.time.seq,.bool p.time.closed,.int .i64 p.looked,.int .i64 p.placed,.int .i64 p.err,vv,.slice none 0 0,.bool false] _ _:=hp'
  all_goals
   clear hp'
   obtain ⟨hH,he,hm,hst,hu,hvs⟩:=Q6 (hH.n s7) (he.n s7) (hm.n s7) (hst.n s7) (hu.n s7) (hvs.n s7)
   refine DL.D<|WQ.n<|WC.rg<|WL.m rfl ?_
   have hp:Bk t7 b1 (rC ({ p with epochs:=p.epochs.set p.at_ (hStr h (rS p)).cv,spent:=p.spent || decide (evenB h.cfg.epochs ≤ (hStr h (rS p)).cv) }:RProc) uv (.slice As p.stripes.length cs) ev (.map (some b2)) vv) 209 (.obj i 0):=by rw [show (rC ({ p with epochs:=p.epochs.set p.at_ (hStr h (rS p)).cv,spent:=p.spent || decide (evenB h.cfg.epochs ≤ (hStr h (rS p)).cv) }:RProc) uv (.slice As p.stripes.length cs) ev (.map (some b2)) vv) = _ from congrArg (fun z=>[.int .i64 (p.who:Int),uv,.int .i64 p.of_,.slice As p.stripes.length cs,.int .i64 (p.phase:Int),.int .i64 (p.at_:Int),.int .i64 p.tries,ev,.bool p.valid,.bool z,.map (some b2)] ++ timeC p.time ++ [.int .i64 p.looked,.int .i64 p.placed,.int .i64 p.err,vv,.slice none 0 0,.bool false]) esp]; exact hp
   refine WL.e (Ef.call rfl en251 (read_next (p:=({ p with epochs:=p.epochs.set p.at_ (hStr h (rS p)).cv,spent:=p.spent || decide (evenB h.cfg.epochs ≤ (hStr h (rS p)).cv) }:RProc)) 1 _ hp hst (by show p.at_ ≤ 1000; have:=k.at_; have:=k.sl; omega)) (fun z h=>by rw [h]; exact rTo)) ?_
   rintro _ t8 ⟨s8,rfl,hp⟩
   obtain ⟨hH,he,hm,hst,hu,hvs⟩:=Q6 (hH.n s8) (he.n s8) (hm.n s8) (hst.n s8) (hu.n s8) (hvs.n s8)
   exact WL.nil<|WQ.bn<|WQ.end_ rfl .nil (by rw [rStep_do hen hne,show rDo h p pos = rDo0 h p by unfold rDo; simp only [hph]]; exact ⟨hH,_,_,_,_,_,hp,RdP.next (p:=({ p with epochs:=p.epochs.set p.at_ (hStr h (rS p)).cv,spent:=p.spent || decide (evenB h.cfg.epochs ≤ (hStr h (rS p)).cv) }:RProc)) ⟨hu,hst,he,⟨b2,rfl,hm⟩,hvs,hv0⟩ _⟩)
 refine WC.rs<|WL.f (Fr.bo rfl rfl BO.eq)<|WL.a rfl<|WL.go ?_
 refine WC.condS rfl (fun hcond87=>?_) (fun hcond87=>?_)
 ·have hph:p.phase = 1:=by have:=dcT hcond87; omega
  refine WC.drs (fun w=>At w b1 10 [.map (some b2)] ∧ True) (.blk .body) (⟨hp.at rfl,trivial⟩) ?_
  obtain ⟨hH,he,hm,hp,hst,hu,hvs⟩:=Q7 (hH.n (TW.drew_step _)) (he.n (TW.drew_step _)) (hm.n (TW.drew_step _)) (hp.n (TW.drew_step _)) (hst.n (TW.drew_step _)) (hu.n (TW.drew_step _)) (hvs.n (TW.drew_step _))
  refine DL.m 0 rfl rfl<|DL.fx 1 rfl (Fr.ncP rfl)<|DL.fx 2 rfl (Fr.q 10 rfl fa209_10)<|DL.m 4 rfl rfl<|DL.m 5 rfl rfl<|DL.m 6 rfl rfl<|DL.fx 7 rfl (Fr.ncP rfl)<|DL.fx 8 rfl (Fr.q 0 rfl fa209_0)<|DL.m 10 rfl rfl<|DL.hx 3 rfl (fun w hw=>Rd.ld rfl sc207 (hw.1.one rfl)) ?_
  refine DL.rx 9 rfl (Rd.ld rfl sc3 (hp.cell rfl))<|DL.ex 11 rfl (Ef.call rfl en252 (hall_Snap (p.who:Int) _ hH (Nat.le_trans k.ha (by decide)) hsl k.hs8) (rT2)) (fun _ _ ⟨s,_⟩=>⟨(hp.step s (by rintro (h | h) <;> cases h)).at rfl,trivial⟩) ?_
  rintro v100 t15 ⟨s15,hsn,hH⟩
  obtain ⟨he,hm,hp,hst,hu,hvs⟩:=Q6 (he.n s15) (hm.n s15) (hp.n s15) (hst.n s15) (hu.n s15) (hvs.n s15)
  refine DL.e0x 12 rfl (Ef.mu (enc:=encI) (a:=(rS p:Int)) (x1:=(hStr h (rS p)).snap) rfl rfl rfl Tryz.underlying207 kyI hm hsn nofun (.inr (by simp [rT]))) (fun _ _ ⟨s,_⟩=>⟨hp.a s,trivial⟩) ?_
  rintro _ t16 ⟨s16,hm⟩
  obtain ⟨hH,he,hp,hst,hu,hvs⟩:=Q6 (hH.n s16) (he.n s16) (hp.n s16) (hst.n s16) (hu.n s16) (hvs.n s16)
  refine DL.D<|WQ.n<|WC.rg<|WL.m rfl<|WL.e (Ef.call rfl en251 (read_next (p:=({ p with seen:=gput p.seen (rS p:Int) (hStr h (rS p)).snap }:RProc)) 2 _ hp hst (by show p.at_ ≤ 1000; have:=k.at_; have:=k.sl; omega)) (fun z h=>by rw [h]; exact rTo)) ?_
  rintro _ t17 ⟨s17,rfl,hp⟩
  obtain ⟨hH,he,hm,hst,hu,hvs⟩:=Q6 (hH.n s17) (he.n s17) (hm.n s17) (hst.n s17) (hu.n s17) (hvs.n s17)
  exact WL.nil<|WQ.bn<|WQ.end_ rfl .nil (by rw [rStep_do hen hne,show rDo h p pos = rDo1 h p by unfold rDo; simp only [hph]]; exact ⟨hH,_,_,_,_,_,hp,RdP.next (p:=({ p with seen:=gput p.seen (rS p:Int) (hStr h (rS p)).snap }:RProc)) ⟨hu,hst,he,⟨b2,rfl,hm⟩,hvs,hv0⟩ _⟩)
 refine WC.seq<|WC.rs<|WL.f (Fr.bo rfl rfl BO.eq)<|WL.a rfl<|WL.go ?_
 refine WC.condS rfl (fun hcond103=>?_) (fun hcond103=>?_)
 ·have hph:p.phase = 2 ∨ p.phase = 5:=by first | (have:=dcT hcond103; omega) | (have:=dcT hcond103_2; omega)
  refine WC.skip<|WQ.n<|WC.condT<|WC.rs<|WL.m rfl<|WL.m rfl<|WL.m rfl<|WL.m rfl<|WL.f (Fr.ncP rfl)<|WL.q 0 rfl fa209_0 ?_
  refine WL.r (Rd.ld rfl sc3 (hp.cell rfl))<|WL.e (Ef.call rfl en156 (hall_Look (p.who:Int) _ hH (Nat.le_trans k.ha (by decide))) (rT2)) ?_
  rintro _ t18 ⟨s18,rfl,hH⟩
  obtain ⟨he,hm,hp,hst,hu,hvs⟩:=Q6 (he.n s18) (hm.n s18) (hp.n s18) (hst.n s18) (hu.n s18) (hvs.n s18)
  refine WL.m rfl<|WL.f (Fr.ncP rfl)<|WL.q 11 rfl fa209_11<|WL.e0 (Ef.T [.int .u64 h.time.now,.int .u64 h.time.seq,.bool h.time.closed] rfl rfl hp sz42 (.inr rTo)) ?_
  rintro _ t19 ⟨u19,s19,hp'⟩
  have hp:Bk t19 b1 [.int .i64 (p.who:Int),uv,.int .i64 p.of_,.slice As p.stripes.length cs,.int .i64 (p.phase:Int),.int .i64 (p.at_:Int),.int .i64 p.tries,ev,.bool p.valid,.bool p.spent,.map (some b2),.int .u64 h.time.now,.int .u64 h.time.seq,.bool h.time.closed,.int .i64 p.looked,.int .i64 p.placed,.int .i64 p.err,vv,.slice none 0 0,.bool false] _ _:=hp'
  clear hp'
  obtain ⟨hH,he,hm,hst,hu,hvs⟩:=Q6 (hH.n s19) (he.n s19) (hm.n s19) (hst.n s19) (hu.n s19) (hvs.n s19)
  refine WL.f (Fr.ncP rfl)<|WL.q 14 rfl fa209_12<|WL.e0 (Ef.T [.int .i64 pos] rfl rfl hp sz3 (.inr rTo)) ?_
  rintro _ t20 ⟨u20,s20,hp'⟩
  have hp:Bk t20 b1 [.int .i64 (p.who:Int),uv,.int .i64 p.of_,.slice As p.stripes.length cs,.int .i64 (p.phase:Int),.int .i64 (p.at_:Int),.int .i64 p.tries,ev,.bool p.valid,.bool p.spent,.map (some b2),.int .u64 h.time.now,.int .u64 h.time.seq,.bool h.time.closed,.int .i64 pos,.int .i64 p.placed,.int .i64 p.err,vv,.slice none 0 0,.bool false] _ _:=hp'
  clear hp'
  obtain ⟨hH,he,hm,hst,hu,hvs⟩:=Q6 (hH.n s20) (he.n s20) (hm.n s20) (hst.n s20) (hu.n s20) (hvs.n s20)
  refine WL.go<|WC.rs<|WL.m rfl<|WL.f (Fr.ncP rfl)<|WL.q 4 rfl fa209_4<|WL.r (Rd.ld rfl sc3 (hp.cell rfl))<|WL.f (Fr.bo rfl rfl (BO.add (by omega) (by omega)))<|WL.f (Fr.ncP rfl)<|WL.q 4 rfl fa209_4<|WL.e0 (Ef.T [.int .i64 ((p.phase:Int) + 1)] rfl rfl hp sz3 (.inr rTo)) ?_
  rintro _ t21 ⟨u21,s21,hp'⟩
  have hp:Bk t21 b1 [.int .i64 (p.who:Int),uv,.int .i64 p.of_,.slice As p.stripes.length cs,.int .i64 ((p.phase:Int) + 1),.int .i64 (p.at_:Int),.int .i64 p.tries,ev,.bool p.valid,.bool p.spent,.map (some b2),.int .u64 h.time.now,.int .u64 h.time.seq,.bool h.time.closed,.int .i64 pos,.int .i64 p.placed,.int .i64 p.err,vv,.slice none 0 0,.bool false] _ _:=hp'
  clear hp'
  obtain ⟨hH,he,hm,hst,hu,hvs⟩:=Q6 (hH.n s21) (he.n s21) (hm.n s21) (hst.n s21) (hu.n s21) (hvs.n s21)
  refine WL.go<|WC.rs<|WL.m rfl<|WL.f (Fr.ncP rfl)<|WL.q 4 rfl fa209_4<|WL.r (Rd.ld rfl sc3 (hp.cell rfl))<|WL.f (Fr.bo rfl rfl BO.eq)<|WL.go ?_
  refine WC.condS rfl (fun hcond130=>?_) (fun hcond130=>?_)
  ·refine WC.rg<|WL.m rfl<|WL.m rfl<|WL.f (Fr.ncP rfl)<|WL.q 15 rfl fa209_13<|WL.e0 (Ef.T [.int .i64 pos] rfl rfl hp sz3 (.inr rTo)) ?_
   rintro _ t22 ⟨u22,s22,hp'⟩
   have hp:Bk t22 b1 [.int .i64 (p.who:Int),uv,.int .i64 p.of_,.slice As p.stripes.length cs,.int .i64 ((p.phase:Int) + 1),.int .i64 (p.at_:Int),.int .i64 p.tries,ev,.bool p.valid,.bool p.spent,.map (some b2),.int .u64 h.time.now,.int .u64 h.time.seq,.bool h.time.closed,.int .i64 pos,.int .i64 pos,.int .i64 p.err,vv,.slice none 0 0,.bool false] _ _:=hp'
   clear hp'
   obtain ⟨hH,he,hm,hst,hu,hvs⟩:=Q6 (hH.n s22) (he.n s22) (hm.n s22) (hst.n s22) (hu.n s22) (hvs.n s22)
   exact WL.nil<|WQ.bn<|WQ.end_ rfl .nil (by rw [rStep_do hen hne,show rDo h p pos = rDo2 h p pos by unfold rDo; rcases hph with e | e <;> simp only [e]]; unfold rDo2; rw [if_pos (by have:=dcT hcond130; omega)]; exact ⟨hH,_,_,_,_,_,hp,hu,hst,he,⟨b2,rfl,hm⟩,hvs,hv0⟩)
  exact WC.skip<|WQ.bn<|WQ.end_ rfl .nil (by rw [rStep_do hen hne,show rDo h p pos = rDo2 h p pos by unfold rDo; rcases hph with e | e <;> simp only [e]]; unfold rDo2; rw [if_neg (by have:=dcF hcond130; omega)]; exact ⟨hH,_,_,_,_,_,hp,hu,hst,he,⟨b2,rfl,hm⟩,hvs,hv0⟩)
 refine WC.rg<|WL.f (Fr.bo rfl rfl BO.eq)<|WL.a rfl<|WL.nil<|WQ.n ?_
 refine WC.condS rfl (fun hcond103_2=>?_) (fun hcond103_2=>?_)
 ·have hph:p.phase = 2 ∨ p.phase = 5:=by first | (have:=dcT hcond103; omega) | (have:=dcT hcond103_2; omega)
  refine WC.rs<|WL.m rfl<|WL.m rfl<|WL.m rfl<|WL.m rfl<|WL.f (Fr.ncP rfl)<|WL.q 0 rfl fa209_0<|WL.r (Rd.ld rfl sc3 (hp.cell rfl))<|WL.e (Ef.call rfl en156 (hall_Look (p.who:Int) _ hH (Nat.le_trans k.ha (by decide))) (rT2)) ?_
  rintro _ t23 ⟨s23,rfl,hH⟩
  obtain ⟨he,hm,hp,hst,hu,hvs⟩:=Q6 (he.n s23) (hm.n s23) (hp.n s23) (hst.n s23) (hu.n s23) (hvs.n s23)
  refine WL.m rfl<|WL.f (Fr.ncP rfl)<|WL.q 11 rfl fa209_11<|WL.e0 (Ef.T [.int .u64 h.time.now,.int .u64 h.time.seq,.bool h.time.closed] rfl rfl hp sz42 (.inr rTo)) ?_
  rintro _ t24 ⟨u24,s24,hp'⟩
  have hp:Bk t24 b1 [.int .i64 (p.who:Int),uv,.int .i64 p.of_,.slice As p.stripes.length cs,.int .i64 (p.phase:Int),.int .i64 (p.at_:Int),.int .i64 p.tries,ev,.bool p.valid,.bool p.spent,.map (some b2),.int .u64 h.time.now,.int .u64 h.time.seq,.bool h.time.closed,.int .i64 p.looked,.int .i64 p.placed,.int .i64 p.err,vv,.slice none 0 0,.bool false] _ _:=hp'
  clear hp'
  obtain ⟨hH,he,hm,hst,hu,hvs⟩:=Q6 (hH.n s24) (he.n s24) (hm.n s24) (hst.n s24) (hu.n s24) (hvs.n s24)
  refine WL.f (Fr.ncP rfl)<|WL.q 14 rfl fa209_12<|WL.e0 (Ef.T [.int .i64 pos] rfl rfl hp sz3 (.inr rTo)) ?_
  rintro _ t25 ⟨u25,s25,hp'⟩
  have hp:Bk t25 b1 [.int .i64 (p.who:Int),uv,.int .i64 p.of_,.slice As p.stripes.length cs,.int .i64 (p.phase:Int),.int .i64 (p.at_:Int),.int .i64 p.tries,ev,.bool p.valid,.bool p.spent,.map (some b2),.int .u64 h.time.now,.int .u64 h.time.seq,.bool h.time.closed,.int .i64 pos,.int .i64 p.placed,.int .i64 p.err,vv,.slice none 0 0,.bool false] _ _:=hp'
  clear hp'
  obtain ⟨hH,he,hm,hst,hu,hvs⟩:=Q6 (hH.n s25) (he.n s25) (hm.n s25) (hst.n s25) (hu.n s25) (hvs.n s25)
  refine WL.go<|WC.rs<|WL.m rfl<|WL.f (Fr.ncP rfl)<|WL.q 4 rfl fa209_4<|WL.r (Rd.ld rfl sc3 (hp.cell rfl))<|WL.f (Fr.bo rfl rfl (BO.add (by omega) (by omega)))<|WL.f (Fr.ncP rfl)<|WL.q 4 rfl fa209_4<|WL.e0 (Ef.T [.int .i64 ((p.phase:Int) + 1)] rfl rfl hp sz3 (.inr rTo)) ?_
  rintro _ t26 ⟨u26,s26,hp'⟩
  have hp:Bk t26 b1 [.int .i64 (p.who:Int),uv,.int .i64 p.of_,.slice As p.stripes.length cs,.int .i64 ((p.phase:Int) + 1),.int .i64 (p.at_:Int),.int .i64 p.tries,ev,.bool p.valid,.bool p.spent,.map (some b2),.int .u64 h.time.now,.int .u64 h.time.seq,.bool h.time.closed,.int .i64 pos,.int .i64 p.placed,.int .i64 p.err,vv,.slice none 0 0,.bool false] _ _:=hp'
  clear hp'
  obtain ⟨hH,he,hm,hst,hu,hvs⟩:=Q6 (hH.n s26) (he.n s26) (hm.n s26) (hst.n s26) (hu.n s26) (hvs.n s26)
  refine WL.go<|WC.rs<|WL.m rfl<|WL.f (Fr.ncP rfl)<|WL.q 4 rfl fa209_4<|WL.r (Rd.ld rfl sc3 (hp.cell rfl))<|WL.f (Fr.bo rfl rfl BO.eq)<|WL.go ?_
  refine WC.condS rfl (fun hcond130=>?_) (fun hcond130=>?_)
  ·refine WC.rg<|WL.m rfl<|WL.m rfl<|WL.f (Fr.ncP rfl)<|WL.q 15 rfl fa209_13<|WL.e0 (Ef.T [.int .i64 pos] rfl rfl hp sz3 (.inr rTo)) ?_
   rintro _ t27 ⟨u27,s27,hp'⟩
   have hp:Bk t27 b1 [.int .i64 (p.who:Int),uv,.int .i64 p.of_,.slice As p.stripes.length cs,.int .i64 ((p.phase:Int) + 1),.int .i64 (p.at_:Int),.int .i64 p.tries,ev,.bool p.valid,.bool p.spent,.map (some b2),.int .u64 h.time.now,.int .u64 h.time.seq,.bool h.time.closed,.int .i64 pos,.int .i64 pos,.int .i64 p.err,vv,.slice none 0 0,.bool false] _ _:=hp'
   clear hp'
   obtain ⟨hH,he,hm,hst,hu,hvs⟩:=Q6 (hH.n s27) (he.n s27) (hm.n s27) (hst.n s27) (hu.n s27) (hvs.n s27)
   exact WL.nil<|WQ.bn<|WQ.end_ rfl .nil (by rw [rStep_do hen hne,show rDo h p pos = rDo2 h p pos by unfold rDo; rcases hph with e | e <;> simp only [e]]; unfold rDo2; rw [if_pos (by have:=dcT hcond130; omega)]; exact ⟨hH,_,_,_,_,_,hp,hu,hst,he,⟨b2,rfl,hm⟩,hvs,hv0⟩)
  exact WC.skip<|WQ.bn<|WQ.end_ rfl .nil (by rw [rStep_do hen hne,show rDo h p pos = rDo2 h p pos by unfold rDo; rcases hph with e | e <;> simp only [e]]; unfold rDo2; rw [if_neg (by have:=dcF hcond130; omega)]; exact ⟨hH,_,_,_,_,_,hp,hu,hst,he,⟨b2,rfl,hm⟩,hvs,hv0⟩)
 refine WC.rs<|WL.f (Fr.bo rfl rfl BO.eq)<|WL.a rfl<|WL.go ?_
 refine WC.condS rfl (fun hcond135=>?_) (fun hcond135=>?_)
 ·have hph:p.phase = 3:=by have:=dcT hcond135; omega
  obtain ⟨be,ce,cse,hev,_⟩:=he.block (by intro e; have h0:=k.ep; rw [e] at h0; have h1:=k.at_; rw [← h0] at h1; exact absurd h1 (Nat.not_lt_zero _))
  refine WC.rs<|WL.m rfl<|WL.m rfl<|WL.f (Fr.ncP rfl)<|WL.q 0 rfl fa209_0<|WL.r (Rd.ld rfl sc3 (hp.cell rfl))<|WL.m rfl<|WL.e (Ef.call rfl en250 (hall_Epoch (p.who:Int) _ hH (Nat.le_trans k.ha (by decide)) hsl k.hs8) (rT2)) ?_
  rintro _ t28 ⟨s28,rfl,hH⟩
  obtain ⟨he,hm,hp,hst,hu,hvs⟩:=Q6 (he.n s28) (hm.n s28) (hp.n s28) (hst.n s28) (hu.n s28) (hvs.n s28)
  refine WL.a rfl<|WL.go<|WC.drs (fun w=>At w b1 7 [ev] ∧ At w b1 5 [.int .i64 (p.at_:Int)] ∧ True) (.blk .body) (⟨hp.at rfl,hp.at rfl,trivial⟩) ?_
  obtain ⟨hH,he,hm,hp,hst,hu,hvs⟩:=Q7 (hH.n (TW.drew_step _)) (he.n (TW.drew_step _)) (hm.n (TW.drew_step _)) (hp.n (TW.drew_step _)) (hst.n (TW.drew_step _)) (hu.n (TW.drew_step _)) (hvs.n (TW.drew_step _))
  refine DL.m 0 rfl rfl<|DL.m 1 rfl rfl<|DL.fx 2 rfl (Fr.ncP rfl)<|DL.fx 3 rfl (Fr.q 8 rfl fa209_8)<|DL.rx 4 rfl (Rd.ld rfl sc4 (hp.cell rfl))<|DL.m 5 rfl rfl ?_
  refine DL.pin 149 rfl (fun hp149=>?_) (fun hp149=>?_)
  focus
   have evd:∀ z:Bool,(p.valid && z) = z:=fun z=>by rw [show p.valid = true from hp149]; rfl
   refine DL.m 6 rfl rfl<|DL.fx 7 rfl (Fr.ncP rfl)<|DL.fx 8 rfl (Fr.q 7 rfl fa209_7)<|DL.m 10 rfl rfl<|DL.fx 11 rfl (Fr.ncP rfl)<|DL.fx 12 rfl (Fr.q 5 rfl fa209_5)<|DL.m 16 rfl rfl<|DL.m 17 rfl rfl<|DL.hx 9 rfl (fun w hw=>Rd.ld rfl sc69 (hw.1.one rfl))<|DL.hx 13 rfl (fun w hw=>Rd.ld rfl sc3 (hw.2.1.one rfl)) ?_
   refine DL.fx 14 rfl (Fr.ix (congrArg some hev) rfl sl69 (by omega) (by have:=k.ep; have:=k.at_; omega) (o' := p.at_) (by simp)) ?_
   refine DL.e2 (i:=15) (j:=18) (by kernel_rfl) ?_ ?_
   focus
    have hlte:p.at_ < p.epochs.length:=by rw [k.ep]; exact hlt
    obtain ⟨bw,capw,cw,ew1,_,ew2,hAw,_,_⟩:=he.at_ (List.getElem?_eq_getElem hlte)
    obtain ⟨ew3,_,_⟩:=Value.slice.inj (hev.symm.trans ew1)
    obtain ⟨rfl,_⟩:=Addr.mk.inj (Option.some.inj ew3)
    rw [← getD_at (z:=0) (List.getElem?_eq_getElem hlte)] at ew2
    obtain rfl:cw = [.int .u64 (p.epochs.getD p.at_ 0)]:=ew2
    rw [show p.at_ * (kInt .u64).k = p.at_ from Nat.mul_one _] at hAw
    have her:=k.er _ (List.getElem_mem hlte)
    rw [← getD_at (z:=0) (List.getElem?_eq_getElem hlte)] at her
    refine DOp.r rfl (Rd.ld rfl sc22 (hAw.one rfl))<|DL.ex 18 rfl (Ef.call rfl en82 (hall_Config _ hH) (fun _ h=>h.elim)) (fun _ _ ⟨s,_⟩=>⟨hp.a s,hp.a s,trivial⟩) ?_
    rintro _ t29 ⟨s29,rfl⟩
    obtain ⟨hH,he,hm,hp,hst,hu,hvs⟩:=Q7 (hH.n s29) (he.n s29) (hm.n s29) (hp.n s29) (hst.n s29) (hu.n s29) (hvs.n s29)
    refine DL.fx 19 rfl (Fr.fd1 rfl Tryz.underlying24 rfl sc22 rfl)<|DL.ex 20 rfl (Ef.call rfl en253 (cell_Valid _ _ _ _ her.1 her.2 k.cr.1 k.cr.2) (fun _ h=>h.elim)) (fun _ _ ⟨s,_⟩=>⟨hp.a s,hp.a s,trivial⟩) ?_
    rintro _ t30 ⟨s30,rfl⟩
    obtain ⟨hH,he,hm,hp,hst,hu,hvs⟩:=Q7 (hH.n s30) (he.n s30) (hm.n s30) (hp.n s30) (hst.n s30) (hu.n s30) (hvs.n s30)
    refine DL.fx 21 rfl (Fr.pkT rfl rfl)<|DL.fx 22 rfl (Fr.ncP rfl)<|DL.fx 23 rfl (Fr.q 8 rfl fa209_8)<|DL.e0x 24 rfl (Ef.T [.bool (decide (p.epochs.getD p.at_ 0 = (hStr h (rS p)).cv ∧ p.epochs.getD p.at_ 0 % 2 = 0 ∧ p.epochs.getD p.at_ 0 < evenB h.cfg.epochs))] rfl rfl hp sz4 (.inr rTo)) (fun _ _ ⟨_,_,hb⟩=>⟨hb.at rfl,hb.at rfl,trivial⟩) ?_
    rintro _ t31 ⟨u31,s31,hp'⟩
   rotate_left
   focus
    refine DOp.e rfl (Ef.call rfl en82 (hall_Config _ hH) (fun _ h=>h.elim)) (fun _ _ ⟨s,_⟩=>⟨hp.a s,hp.a s,trivial⟩) ?_
    rintro _ t34 ⟨s34,rfl⟩
    obtain ⟨hH,he,hm,hp,hst,hu,hvs⟩:=Q7 (hH.n s34) (he.n s34) (hm.n s34) (hp.n s34) (hst.n s34) (hu.n s34) (hvs.n s34)
    refine DL.fx 19 rfl (Fr.fd1 rfl Tryz.underlying24 rfl sc22 rfl) ?_
    have hlte:p.at_ < p.epochs.length:=by rw [k.ep]; exact hlt
    obtain ⟨bw,capw,cw,ew1,_,ew2,hAw,_,_⟩:=he.at_ (List.getElem?_eq_getElem hlte)
    obtain ⟨ew3,_,_⟩:=Value.slice.inj (hev.symm.trans ew1)
    obtain ⟨rfl,_⟩:=Addr.mk.inj (Option.some.inj ew3)
    rw [← getD_at (z:=0) (List.getElem?_eq_getElem hlte)] at ew2
    obtain rfl:cw = [.int .u64 (p.epochs.getD p.at_ 0)]:=ew2
    rw [show p.at_ * (kInt .u64).k = p.at_ from Nat.mul_one _] at hAw
    have her:=k.er _ (List.getElem_mem hlte)
    rw [← getD_at (z:=0) (List.getElem?_eq_getElem hlte)] at her
    refine DL.rx 15 rfl (Rd.ld rfl sc22 (hAw.one rfl))<|DL.ex 20 rfl (Ef.call rfl en253 (cell_Valid _ _ _ _ her.1 her.2 k.cr.1 k.cr.2) (fun _ h=>h.elim)) (fun _ _ ⟨s,_⟩=>⟨hp.a s,hp.a s,trivial⟩) ?_
    rintro _ t35 ⟨s35,rfl⟩
    obtain ⟨hH,he,hm,hp,hst,hu,hvs⟩:=Q7 (hH.n s35) (he.n s35) (hm.n s35) (hp.n s35) (hst.n s35) (hu.n s35) (hvs.n s35)
    refine DL.fx 21 rfl (Fr.pkT rfl rfl)<|DL.fx 22 rfl (Fr.ncP rfl)<|DL.fx 23 rfl (Fr.q 8 rfl fa209_8)<|DL.e0x 24 rfl (Ef.T [.bool (decide (p.epochs.getD p.at_ 0 = (hStr h (rS p)).cv ∧ p.epochs.getD p.at_ 0 % 2 = 0 ∧ p.epochs.getD p.at_ 0 < evenB h.cfg.epochs))] rfl rfl hp sz4 (.inr rTo)) (fun _ _ ⟨_,_,hb⟩=>⟨hb.at rfl,hb.at rfl,trivial⟩) ?_
    rintro _ t31 ⟨u36,s31,hp'⟩
   all_goals
    have hp:Bk t31 b1 [.int .i64 (p.who:Int),uv,.int .i64 p.of_,.slice As p.stripes.length cs,.int .i64 (p.phase:Int),.int .i64 (p.at_:Int),.int .i64 p.tries,ev,.bool (decide (p.epochs.getD p.at_ 0 = (hStr h (rS p)).cv ∧ p.epochs.getD p.at_ 0 % 2 = 0 ∧ p.epochs.getD p.at_ 0 < evenB h.cfg.epochs)),.bool p.spent,.map (some b2),.int .u64 p.time.now,.int .u64 p.time.seq,.bool p.time.closed,.int .i64 p.looked,.int .i64 p.placed,.int .i64 p.err,vv,.slice none 0 0,.bool false] _ _:=hp'
  rotate_left 2
  focus
   have evd:∀ z:Bool,(p.valid && z) = false:=fun z=>by rw [show p.valid = false from hp149]; rfl
   refine DL.sx 6 rfl<|DL.sx 7 rfl<|DL.sx 8 rfl<|DL.sx 9 rfl<|DL.sx 10 rfl<|DL.sx 11 rfl<|DL.sx 12 rfl<|DL.sx 13 rfl<|DL.sx 14 rfl<|DL.sx 15 rfl ?_
   refine DL.sx 16 rfl<|DL.sx 17 rfl<|DL.sx 18 rfl<|DL.sx 19 rfl<|DL.sx 20 rfl<|DL.fx 21 rfl (Fr.pkF rfl rfl)<|DL.fx 22 rfl (Fr.ncP rfl)<|DL.fx 23 rfl (Fr.q 8 rfl fa209_8)<|DL.e0x 24 rfl (Ef.T [.bool false] rfl rfl hp sz4 (.inr rTo)) (fun _ _ ⟨_,_,hb⟩=>⟨hb.at rfl,hb.at rfl,trivial⟩) ?_
   rintro _ t31 ⟨u39,s31,hp'⟩
   have hp:Bk t31 b1 [.int .i64 (p.who:Int),uv,.int .i64 p.of_,.slice As p.stripes.length cs,.int .i64 (p.phase:Int),.int .i64 (p.at_:Int),.int .i64 p.tries,ev,.bool false,.bool p.spent,.map (some b2),.int .u64 p.time.now,.int .u64 p.time.seq,.bool p.time.closed,.int .i64 p.looked,.int .i64 p.placed,.int .i64 p.err,vv,.slice none 0 0,.bool false] _ _:=hp'
  all_goals
   clear hp'
   obtain ⟨hH,he,hm,hst,hu,hvs⟩:=Q6 (hH.n s31) (he.n s31) (hm.n s31) (hst.n s31) (hu.n s31) (hvs.n s31)
   refine DL.D<|WQ.n<|WC.rs<|WL.m rfl ?_
   have hp:Bk t31 b1 (rC ({ p with valid:=p.valid && decide (p.epochs.getD p.at_ 0 = (hStr h (rS p)).cv ∧ p.epochs.getD p.at_ 0 % 2 = 0 ∧ p.epochs.getD p.at_ 0 < evenB h.cfg.epochs) }:RProc) uv (.slice As p.stripes.length cs) ev (.map (some b2)) vv) 209 (.obj i 0):=by rw [show (rC ({ p with valid:=p.valid && decide (p.epochs.getD p.at_ 0 = (hStr h (rS p)).cv ∧ p.epochs.getD p.at_ 0 % 2 = 0 ∧ p.epochs.getD p.at_ 0 < evenB h.cfg.epochs) }:RProc) uv (.slice As p.stripes.length cs) ev (.map (some b2)) vv) = _ from congrArg (fun z=>[.int .i64 (p.who:Int),uv,.int .i64 p.of_,.slice As p.stripes.length cs,.int .i64 (p.phase:Int),.int .i64 (p.at_:Int),.int .i64 p.tries,ev,.bool z,.bool p.spent,.map (some b2)] ++ timeC p.time ++ [.int .i64 p.looked,.int .i64 p.placed,.int .i64 p.err,vv,.slice none 0 0,.bool false]) (evd _)]; exact hp
   refine WL.e (Ef.call rfl en251 (read_next (p:=({ p with valid:=p.valid && decide (p.epochs.getD p.at_ 0 = (hStr h (rS p)).cv ∧ p.epochs.getD p.at_ 0 % 2 = 0 ∧ p.epochs.getD p.at_ 0 < evenB h.cfg.epochs) }:RProc)) 8 _ hp hst (by show p.at_ ≤ 1000; have:=k.at_; have:=k.sl; omega)) (fun z h=>by rw [h]; exact rTo)) ?_
   rintro _ t32 ⟨s32,rfl,hp⟩
   obtain ⟨hH,he,hm,hst,hu,hvs⟩:=Q6 (hH.n s32) (he.n s32) (hm.n s32) (hst.n s32) (hu.n s32) (hvs.n s32)
   refine WL.go ?_
   refine WC.condS rfl (fun hcond169=>?_) (fun hcond169=>?_)
   ·refine WC.rg<|WL.m rfl ?_
    have hR1:=RdP.next (p:=({ p with valid:=p.valid && decide (p.epochs.getD p.at_ 0 = (hStr h (rS p)).cv ∧ p.epochs.getD p.at_ 0 % 2 = 0 ∧ p.epochs.getD p.at_ 0 < evenB h.cfg.epochs) }:RProc)) ⟨hu,hst,he,⟨b2,rfl,hm⟩,hvs,hv0⟩ 8
    have hsm:=rNext_same ({ p with valid:=p.valid && decide (p.epochs.getD p.at_ 0 = (hStr h (rS p)).cv ∧ p.epochs.getD p.at_ 0 % 2 = 0 ∧ p.epochs.getD p.at_ 0 < evenB h.cfg.epochs) }:RProc) 8
    refine WL.e (Ef.call rfl en254 (read_judge (p:=(rNext ({ p with valid:=p.valid && decide (p.epochs.getD p.at_ 0 = (hStr h (rS p)).cv ∧ p.epochs.getD p.at_ 0 % 2 = 0 ∧ p.epochs.getD p.at_ 0 < evenB h.cfg.epochs) }:RProc) 8).1) _ hp hR1 (by rw [hsm.2]; exact Nat.le_trans k.sl (by decide)) (by rw [hsm.1]; exact k.tr.1) (by rw [hsm.1]; exact k.tr.2) (AOk.next (p:=({ p with valid:=p.valid && decide (p.epochs.getD p.at_ 0 = (hStr h (rS p)).cv ∧ p.epochs.getD p.at_ 0 % 2 = 0 ∧ p.epochs.getD p.at_ 0 < evenB h.cfg.epochs) }:RProc)) ⟨k.an.ul,k.an.us,k.an.of_,k.an.bk,k.an.v⟩ 8)) (fun z h=>by rw [h]; exact rTo)) ?_
    rintro _ t33 ⟨s33,hJ⟩
    have hH:=hH.n s33
    exact WL.nil<|WQ.bn<|WQ.end_ rfl .nil (by rw [rStep_do hen hne,show rDo h p pos = rDo3 h p by unfold rDo; simp only [hph]]; unfold rDo3; simp only; rw [if_pos hcond169]; exact ⟨hH,hJ⟩)
   ·exact WC.skip<|WQ.bn<|WQ.end_ rfl .nil (by rw [rStep_do hen hne,show rDo h p pos = rDo3 h p by unfold rDo; simp only [hph]]; unfold rDo3; simp only; rw [if_neg (fun h=>Bool.noConfusion (hcond169.symm.trans h))]; exact ⟨hH,_,_,_,_,_,hp,RdP.next (p:=({ p with valid:=p.valid && decide (p.epochs.getD p.at_ 0 = (hStr h (rS p)).cv ∧ p.epochs.getD p.at_ 0 % 2 = 0 ∧ p.epochs.getD p.at_ 0 < evenB h.cfg.epochs) }:RProc)) ⟨hu,hst,he,⟨b2,rfl,hm⟩,hvs,hv0⟩ _⟩)
 refine WC.rs<|WL.f (Fr.bo rfl rfl BO.eq)<|WL.a rfl<|WL.go ?_
 refine WC.condS rfl (fun hcond172=>?_) (fun hcond172=>?_)
 ·have hph:p.phase = 4:=by have:=dcT hcond172; omega
  refine WC.rs<|WL.m rfl<|WL.m rfl<|WL.f (Fr.ncP rfl)<|WL.q 0 rfl fa209_0<|WL.r (Rd.ld rfl sc3 (hp.cell rfl))<|WL.m rfl<|WL.e (Ef.call rfl en154 (hall_Lock (p.who:Int) _ hH (Nat.le_trans k.ha (by decide)) hsl k.hs8 (by have:=k.hw; omega)) (rT3)) ?_
  rintro _ t42 ⟨s42,rfl,hH⟩
  obtain ⟨he,hm,hp,hst,hu,hvs⟩:=Q6 (he.n s42) (hm.n s42) (hp.n s42) (hst.n s42) (hu.n s42) (hvs.n s42)
  refine WL.go<|WC.rg<|WL.m rfl<|WL.e (Ef.call rfl en251 (read_next (p:=p) 5 _ hp hst (by show p.at_ ≤ 1000; have:=k.at_; have:=k.sl; omega)) (fun z h=>by rw [h]; exact rTo)) ?_
  rintro _ t43 ⟨s43,rfl,hp⟩
  obtain ⟨hH,he,hm,hst,hu,hvs⟩:=Q6 (hH.n s43) (he.n s43) (hm.n s43) (hst.n s43) (hu.n s43) (hvs.n s43)
  exact WL.nil<|WQ.bn<|WQ.end_ rfl .nil (by rw [rStep_do hen hne,show rDo h p pos = rDo4 h p by unfold rDo; simp only [hph]]; exact ⟨hH,_,_,_,_,_,hp,RdP.next (p:=p) ⟨hu,hst,he,⟨b2,rfl,hm⟩,hvs,hv0⟩ _⟩)
 refine WC.rs<|WL.f (Fr.bo rfl rfl BO.eq)<|WL.a rfl<|WL.go ?_
 refine WC.condS rfl (fun hcond183=>?_) (fun hcond183=>?_)
 ·have hph:p.phase = 6:=by have:=dcT hcond183; omega
  refine WC.drs (fun w=>At w b1 10 [.map (some b2)] ∧ True) (.blk .body) (⟨hp.at rfl,trivial⟩) ?_
  obtain ⟨hH,he,hm,hp,hst,hu,hvs⟩:=Q7 (hH.n (TW.drew_step _)) (he.n (TW.drew_step _)) (hm.n (TW.drew_step _)) (hp.n (TW.drew_step _)) (hst.n (TW.drew_step _)) (hu.n (TW.drew_step _)) (hvs.n (TW.drew_step _))
  refine DL.m 0 rfl rfl<|DL.fx 1 rfl (Fr.ncP rfl)<|DL.fx 2 rfl (Fr.q 10 rfl fa209_10)<|DL.m 4 rfl rfl<|DL.m 5 rfl rfl<|DL.m 6 rfl rfl<|DL.fx 7 rfl (Fr.ncP rfl)<|DL.fx 8 rfl (Fr.q 0 rfl fa209_0)<|DL.m 10 rfl rfl<|DL.hx 3 rfl (fun w hw=>Rd.ld rfl sc207 (hw.1.one rfl)) ?_
  refine DL.rx 9 rfl (Rd.ld rfl sc3 (hp.cell rfl))<|DL.ex 11 rfl (Ef.call rfl en255 (hall_Read (p.who:Int) _ hH (Nat.le_trans k.ha (by decide)) hsl k.hs8) (rT2)) (fun _ _ ⟨s,_⟩=>⟨(hp.step s (by rintro (h | h) <;> cases h)).at rfl,trivial⟩) ?_
  rintro v196 t44 ⟨s44,hsn,hH⟩
  obtain ⟨he,hm,hp,hst,hu,hvs⟩:=Q6 (he.n s44) (hm.n s44) (hp.n s44) (hst.n s44) (hu.n s44) (hvs.n s44)
  refine DL.e0x 12 rfl (Ef.mu (enc:=encI) (a:=(rS p:Int)) (x1:=(hStr h (rS p)).book) rfl rfl rfl Tryz.underlying207 kyI hm hsn nofun (.inr (by simp [rT]))) (fun _ _ ⟨s,_⟩=>⟨hp.a s,trivial⟩) ?_
  rintro _ t45 ⟨s45,hm⟩
  obtain ⟨hH,he,hp,hst,hu,hvs⟩:=Q6 (hH.n s45) (he.n s45) (hp.n s45) (hst.n s45) (hu.n s45) (hvs.n s45)
  refine DL.D<|WQ.n<|WC.rg<|WL.m rfl<|WL.e (Ef.call rfl en251 (read_next (p:=({ p with seen:=gput p.seen (rS p:Int) (hStr h (rS p)).book }:RProc)) 7 _ hp hst (by show p.at_ ≤ 1000; have:=k.at_; have:=k.sl; omega)) (fun z h=>by rw [h]; exact rTo)) ?_
  rintro _ t46 ⟨s46,rfl,hp⟩
  obtain ⟨hH,he,hm,hst,hu,hvs⟩:=Q6 (hH.n s46) (he.n s46) (hm.n s46) (hst.n s46) (hu.n s46) (hvs.n s46)
  exact WL.nil<|WQ.bn<|WQ.end_ rfl .nil (by rw [rStep_do hen hne,show rDo h p pos = rDo6 h p by unfold rDo; simp only [hph]]; exact ⟨hH,_,_,_,_,_,hp,RdP.next (p:=({ p with seen:=gput p.seen (rS p:Int) (hStr h (rS p)).book }:RProc)) ⟨hu,hst,he,⟨b2,rfl,hm⟩,hvs,hv0⟩ _⟩)
 refine WC.rs<|WL.f (Fr.bo rfl rfl BO.eq)<|WL.a rfl<|WL.go ?_
 refine WC.condS rfl (fun hcond199=>?_) (fun hcond199=>?_)
 ·have hph:p.phase = 7:=by have:=dcT hcond199; omega
  refine WC.rs<|WL.m rfl<|WL.m rfl<|WL.f (Fr.ncP rfl)<|WL.q 0 rfl fa209_0<|WL.r (Rd.ld rfl sc3 (hp.cell rfl))<|WL.m rfl<|WL.e (Ef.call rfl en121 (hall_Unlock (p.who:Int) _ hH (Nat.le_trans k.ha (by decide)) hsl k.hs8 (k.lt _ hsl).1 (k.lt _ hsl).2) (rT3)) ?_
  rintro _ t47 ⟨s47,rfl,hH⟩
  obtain ⟨he,hm,hp,hst,hu,hvs⟩:=Q6 (he.n s47) (hm.n s47) (hp.n s47) (hst.n s47) (hu.n s47) (hvs.n s47)
  refine WL.go<|WC.rs<|WL.m rfl<|WL.e (Ef.call rfl en251 (read_next (p:=p) 8 _ hp hst (by show p.at_ ≤ 1000; have:=k.at_; have:=k.sl; omega)) (fun z h=>by rw [h]; exact rTo)) ?_
  rintro _ t48 ⟨s48,rfl,hp⟩
  obtain ⟨hH,he,hm,hst,hu,hvs⟩:=Q6 (hH.n s48) (he.n s48) (hm.n s48) (hst.n s48) (hu.n s48) (hvs.n s48)
  refine WL.go ?_
  refine WC.condS rfl (fun hcond209=>?_) (fun hcond209=>?_)
  ·refine WC.rg<|WL.m rfl ?_
   have hR1:=RdP.next (p:=p) ⟨hu,hst,he,⟨b2,rfl,hm⟩,hvs,hv0⟩ 8
   have hA1:=k.an.next 8
   obtain rfl:=hR1.v0 hA1.v
   obtain ⟨hu1,hst1,he1,_,_,_⟩:=hR1
   have hm1:Mp t48 b2 (.mp i 0) encI mvBook (rNext p 8).1.seen:=by unfold rNext; split <;> exact hm
   refine WL.e (Ef.call rfl en249 (read_answer (p:=(rNext p 8).1) _ hp hu1 hm1 hA1) (fun z h=>by rw [h]; exact rTo)) ?_
   rintro _ t49 ⟨s49,vv2,hp,hvs2,hv2⟩
   obtain ⟨hH,he1,hm1,hst1,hu1⟩:=Q5 (hH.n s49) (he1.n s49) (hm1.n s49) (hst1.n s49) (hu1.n s49)
   exact WL.nil<|WQ.bn<|WQ.end_ rfl .nil (by rw [rStep_do hen hne,show rDo h p pos = rDo7 h p by unfold rDo; simp only [hph]]; unfold rDo7; rw [if_pos hcond209]; obtain ⟨e1,e2,e3,e4⟩:=rAnswer_same (rNext p 8).1; exact ⟨hH,_,_,_,_,_,hp,⟨by rw [e1]; exact hu1,by rw [e2]; exact hst1,by rw [e3]; exact he1,⟨b2,rfl,by rw [e4]; exact hm1⟩,hvs2,hv2⟩⟩)
  exact WC.skip<|WQ.bn<|WQ.end_ rfl .nil (by rw [rStep_do hen hne,show rDo h p pos = rDo7 h p by unfold rDo; simp only [hph]]; unfold rDo7; rw [if_neg (fun h=>Bool.noConfusion (hcond209.symm.trans h))]; exact ⟨hH,_,_,_,_,_,hp,RdP.next (p:=p) ⟨hu,hst,he,⟨b2,rfl,hm⟩,hvs,hv0⟩ _⟩)
 exact WC.skip<|WQ.bn<|WQ.end_ rfl .nil (by exfalso; have:=k.ph; have:=dcF hcond43; have:=dcF hcond87; have:=dcF hcond103; have:=dcF hcond103_2; have:=dcF hcond135; have:=dcF hcond172; have:=dcF hcond183; have:=dcF hcond199; unfold rEnabled at hen; simp at hen; omega)
theorem mt101 (u : Value) (w : World) : (method (P.types.size + Made.depth) 158 u "Waits").run P w = .ok (101, u) w := by kernel_rfl
theorem mt79 (u : Value) (w : World) : (method (P.types.size + Made.depth) 158 u "Enabled").run P w = .ok (79, u) w := by kernel_rfl
theorem mt80 (u : Value) (w : World) : (method (P.types.size + Made.depth) 158 u "Step").run P w = .ok (80, u) w := by kernel_rfl
theorem mt81 (u : Value) (w : World) : (method (P.types.size + Made.depth) 158 u "Done").run P w = .ok (81, u) w := by kernel_rfl
theorem mt83 (u : Value) (w : World) : (method (P.types.size + Made.depth) 158 u "Placed").run P w = .ok (83, u) w := by kernel_rfl
theorem mt239 (u : Value) (w : World) : (method (P.types.size + Made.depth) 158 u "Reply").run P w = .ok (239, u) w := by kernel_rfl
theorem mt248 (u : Value) (w : World) : (method (P.types.size + Made.depth) 188 u "Waits").run P w = .ok (248, u) w := by kernel_rfl
theorem mt244 (u : Value) (w : World) : (method (P.types.size + Made.depth) 188 u "Enabled").run P w = .ok (244, u) w := by kernel_rfl
theorem mt247 (u : Value) (w : World) : (method (P.types.size + Made.depth) 188 u "Step").run P w = .ok (247, u) w := by kernel_rfl
theorem mt243 (u : Value) (w : World) : (method (P.types.size + Made.depth) 188 u "Done").run P w = .ok (243, u) w := by kernel_rfl
theorem mt245 (u : Value) (w : World) : (method (P.types.size + Made.depth) 188 u "Placed").run P w = .ok (245, u) w := by kernel_rfl
theorem mt246 (u : Value) (w : World) : (method (P.types.size + Made.depth) 188 u "Reply").run P w = .ok (246, u) w := by kernel_rfl
theorem mt263 (u : Value) (w : World) : (method (P.types.size + Made.depth) 190 u "Waits").run P w = .ok (263, u) w := by kernel_rfl
theorem mt259 (u : Value) (w : World) : (method (P.types.size + Made.depth) 190 u "Enabled").run P w = .ok (259, u) w := by kernel_rfl
theorem mt262 (u : Value) (w : World) : (method (P.types.size + Made.depth) 190 u "Step").run P w = .ok (262, u) w := by kernel_rfl
theorem mt258 (u : Value) (w : World) : (method (P.types.size + Made.depth) 190 u "Done").run P w = .ok (258, u) w := by kernel_rfl
theorem mt260 (u : Value) (w : World) : (method (P.types.size + Made.depth) 190 u "Placed").run P w = .ok (260, u) w := by kernel_rfl
theorem mt261 (u : Value) (w : World) : (method (P.types.size + Made.depth) 190 u "Reply").run P w = .ok (261, u) w := by kernel_rfl
def MCal (tt:TypeId) (u:Value) (name:String) (vs:List Value) (t:TW) (T:Tag → Prop) (Φ:Value → TW → Prop):Prop:=∃ f,(∀ w,(method (P.types.size + Made.depth) tt u name).run P w = .ok (f,u) w) ∧ Ent f ∧ Cal f (u :: vs) t T Φ
theorem Ef.callM {c:Ctx} {E:Env} {d:Option Nat} {ty:TypeId} {pos:String} {af:Array Edge} {g:Option (Nat × Bool)} {t:TW} {s:Nat} {tt:TypeId} {u:Value} {name:String} {xs:List Operand} {vs:List Value} {ts:Array TypeId} {T:Tag → Prop} {Φ:Value → TW → Prop} (hc:lk E s = some (.iface tt u)) (hx:evs E xs = some vs)
  (h:MCal tt u name vs t T Φ) (hT:∀ q,T q → c.T q):Ef c ⟨d,.call { callee:=.invoke (.tmp s) name,args:=xs.toArray,argTypes:=ts },ty,pos,af,g⟩ E t (fun v t' => Step T t t' ∧ Φ v t'):=by
 obtain ⟨f,h1,h2,h3⟩:=h
 exact Ef.callm hc hx h1 h2 h3 hT
def PR (t:TW) (i mb:Nat) (tt:TypeId) (u:Value):ProcS → Prop
 | .w p=>tt = 158 ∧ ∃ b,u = .pointer (some ⟨b,0,none⟩) ∧ IsW t (.obj i 0) b p
 | .r p=>tt = 188 ∧ ∃ b,u = .pointer (some ⟨b,0,none⟩) ∧ IsRd t i b p
 | .d p=>tt = 190 ∧ ∃ b,u = .pointer (some ⟨b,0,none⟩) ∧ IsHd t i b mb p
theorem PR.step {t t' : TW} {i mb:Nat} {tt:TypeId} {u:Value} {p:ProcS} {T:Tag → Prop} (h:PR t i mb tt u p) (s:Step T t t') (h1:¬ T (.obj i 0)) (h2:¬ T (.ep i 0)) (h3:¬ T (.mp i 0)) (h4:¬ T (.al i 0)) (h0:¬ T .fz):PR t' i mb tt u p:=by
 cases p with
 | w p=>
  obtain ⟨e,b,e2,g⟩:=h
  exact ⟨e,b,e2,g.step s h1 h0⟩
 | r p=>
  obtain ⟨e,b,e2,g⟩:=h
  exact ⟨e,b,e2,g.step s h1 h2 h3 h0⟩
 | d p=>
  obtain ⟨e,b,e2,g⟩:=h
  exact ⟨e,b,e2,g.step s h1 h4 h0⟩
theorem PR.n {t t' : TW} {i mb:Nat} {tt:TypeId} {u:Value} {p:ProcS} {T:Tag → Prop} (h:PR t i mb tt u p) (s:Step T t t') (h1:¬ T (.obj i 0):=by first | exact id | nofun | (rintro (h | h) <;> cases h) | (rintro (h | h | h) <;> cases h)) (h2:¬ T (.ep i 0):=by first | exact id | nofun | (rintro (h | h) <;> cases h) | (rintro (h | h | h) <;> cases h)) (h3:¬ T (.mp i 0):=by first | exact id | nofun | (rintro (h | h) <;> cases h) | (rintro (h | h | h) <;> cases h)) (h4:¬ T (.al i 0):=by first | exact id | nofun | (rintro (h | h) <;> cases h) | (rintro (h | h | h) <;> cases h)) (h0:¬ T .fz:=by first | exact id | nofun | (rintro (h | h) <;> cases h) | (rintro (h | h | h) <;> cases h)):PR t' i mb tt u p:=h.step s h1 h2 h3 h4 h0
def POk (h:HallS):ProcS → Prop
 | .w p=>p.s < h.strs.length ∧ (wEnabled h p = true → nilAct p.act = false → WOk h p)
 | .r p=>(p.phase = 4 → p.at_ < p.stripes.length) ∧ (∀ s:Nat,rWaits p = (s:Int) → s < h.strs.length) ∧ (rEnabled h p = true → p.stripes ≠ [] → ROk h p)
 | .d p=>p.acts.length ≤ 900000 ∧ (∀ s:Nat,hdWaits p = (s:Int) → s < h.strs.length) ∧ (∀ a,p.acts[p.at_]? = some a → hdEnabled h p = true → HOk h p a)
section
variable {t:TW} {i mb hb:Nat} {tt:TypeId} {u:Value} {p:ProcS} {h:HallS}
theorem proc_Waits (hR : PR t i mb tt u p) (hk : POk h p) : MCal tt u "Waits" [] t No (fun r _ => r = .int .i64 (pWaits p)) := by
 cases p with
 | w p=>
  obtain ⟨rfl,b,rfl,av,hp,hA⟩:=hR
  exact ⟨101,mt101 _,en101,write_Waits _ hp hA⟩
 | r p=>
  obtain ⟨rfl,b,rfl,uv,sv,ev,mv,vv,hp,hP⟩:=hR
  exact ⟨248,mt248 _,en248,read_Waits _ hp hP.st hk.1⟩
 | d p=>
  obtain ⟨rfl,b,rfl,hD⟩:=hR
  exact ⟨263,mt263 _,en263,heed_Waits _ hD hk.1⟩
theorem proc_Enabled (hR : PR t i mb tt u p) (hH : IsHall t hb h) (hs8 : h.strs.length ≤ 8) (hk : POk h p) : MCal tt u "Enabled" [.pointer (some ⟨hb, 0, none⟩)] t No (fun r _ => r = .bool (pEnabled h p)) := by
 cases p with
 | w p=>
  obtain ⟨rfl,b,rfl,av,hp,hA⟩:=hR
  exact ⟨79,mt79 _,en79,write_Enabled _ hp hA hH hk.1 hs8⟩
 | r p=>
  obtain ⟨rfl,b,rfl,uv,sv,ev,mv,vv,hp,hP⟩:=hR
  exact ⟨244,mt244 _,en244,read_Enabled _ hp hP.st hk.1 hH hk.2.1 hs8⟩
 | d p=>
  obtain ⟨rfl,b,rfl,hD⟩:=hR
  exact ⟨259,mt259 _,en259,heed_Enabled _ hD hH hk.1 hk.2.1 hs8⟩
abbrev pT (i:Nat):Tag → Prop:=fun z=>z = .hall ∨ z = .acts ∨ z = .strs ∨ (∃ s,z = .feed s ∨ ∃ k,z = .ring s k ∨ z = .rrow s k) ∨ z = .mine i ∨ z = .al i 0 ∨ z = .obj i 0 ∨ z = .ep i 0 ∨ z = .mp i 0
theorem proc_Step (pos:Int) {m:MineS} (hR:PR t i mb tt u p) (hH:IsHall t hb h) (hM:IsMine t i mb m) (hs8:h.strs.length ≤ 8) (hk:POk h p) :
  MCal tt u "Step" [.pointer (some ⟨hb, 0, none⟩), .int .i64 pos] t (pT i) (fun _ t' => IsHall t' hb (pStep h m pos p).1 ∧ IsMine t' i mb (pStep h m pos p).2.1 ∧ PR t' i mb tt u (pStep h m pos p).2.2) := by
 cases p with
 | w p=>
  obtain ⟨rfl,b,rfl,hW⟩:=hR
  exact ⟨80,mt80 _,en80,(write_Step pos t hW hH hk.1 hs8 hk.2).mono (fun z hz=>by rcases hz with h | h | h | ⟨_,h | h⟩ | h <;> simp [pT,h]) fun _ _ s hh=>⟨hh.1,hM.step s (by rintro (h | h | h | ⟨_,h | h⟩ | h) <;> cases h) (by rintro (h | h | h | ⟨_,h | h⟩ | h) <;> cases h),rfl,b,rfl,hh.2⟩⟩
 | r p=>
  obtain ⟨rfl,b,rfl,hD⟩:=hR
  exact ⟨247,mt247 _,en247,(read_Step pos t hD hH hk.1 hk.2.1 hs8 hk.2.2).mono (fun z hz=>by rcases hz with h | h | h | h | h | h <;> simp [pT,h]) fun _ _ s hh=>⟨hh.1,hM.step s (by rintro (h | h | h | h | h | h) <;> cases h) (by rintro (h | h | h | h | h | h) <;> cases h),rfl,b,rfl,hh.2⟩⟩
 | d p=>
  obtain ⟨rfl,b,rfl,hD⟩:=hR
  exact ⟨262,mt262 _,en262,(heed_Step pos t hD hH hM hk.1 hk.2.1 hs8 hk.2.2).mono (fun z hz=>by rcases hz with h | h | h | ⟨s,h | ⟨k,h⟩⟩ | h | h | h <;> simp [pT,h]) fun _ _ s hh=>⟨hh.1,hh.2.1,rfl,b,rfl,hh.2.2⟩⟩
theorem proc_Done (hR : PR t i mb tt u p) : MCal tt u "Done" [] t No (fun r _ => r = .bool (pDone p)) := by
 cases p with
 | w p=>
  obtain ⟨rfl,b,rfl,av,hp,hA⟩:=hR
  exact ⟨81,mt81 _,en81,(write_Done _ hp).post fun _ _ _ h=>by rw [h]; show Value.bool _ = Value.bool (wDone p); unfold wDone; congr 1; rw [decide_eq_decide]; omega⟩
 | r p=>
  obtain ⟨rfl,b,rfl,uv,sv,ev,mv,vv,hp,hP⟩:=hR
  exact ⟨243,mt243 _,en243,read_Done _ hp⟩
 | d p=>
  obtain ⟨rfl,b,rfl,hD⟩:=hR
  exact ⟨258,mt258 _,en258,heed_Done _ hD⟩
theorem proc_Placed (hR : PR t i mb tt u p) : MCal tt u "Placed" [] t No (fun r _ => r = .int .i64 (pPlaced p)) := by
 cases p with
 | w p=>
  obtain ⟨rfl,b,rfl,av,hp,hA⟩:=hR
  exact ⟨83,mt83 _,en83,write_Placed _ hp⟩
 | r p=>
  obtain ⟨rfl,b,rfl,uv,sv,ev,mv,vv,hp,hP⟩:=hR
  exact ⟨245,mt245 _,en245,read_Placed _ hp⟩
 | d p=>
  obtain ⟨rfl,b,rfl,hD⟩:=hR
  exact ⟨260,mt260 _,en260,heed_Placed _ hD⟩
theorem proc_Reply (hR : PR t i mb tt u p) : MCal tt u "Reply" [] t No (fun r t' => ∃ vv ev, r = .agg (replyC (pReply p) vv ev).toArray ∧ Sl t' kPres vv (pReply p).values ∧ Sl t' kEvent ev (pReply p).events) := by
 cases p with
 | w p=>
  obtain ⟨rfl,b,rfl,av,hp,hA⟩:=hR
  refine ⟨239,mt239 _,en239,(write_Reply _ hp).post fun _ _ _ h=>⟨.slice none 0 0,.slice none 0 0,?_,Sl.nil _ _ _ _,Sl.nil _ _ _ _⟩⟩
  rw [h]
  show Value.agg (rep0 (if 7 ≤ (p.at_:Int) then p.err else 0)).toArray = Value.agg (rep0 (if wDone p = true then p.err else 0)).toArray
  unfold wDone
  by_cases h7:7 ≤ p.at_
  ·rw [if_pos (by omega),if_pos (decide_eq_true h7)]
  rw [if_neg (by omega),if_neg (by simp [h7])]
 | r p=>
  obtain ⟨rfl,b,rfl,uv,sv,ev,mv,vv,hp,hP⟩:=hR
  refine ⟨246,mt246 _,en246,(read_Reply _ hp hP.vs).post fun _ _ _ h=>?_⟩
  obtain ⟨v2,h1,h2⟩:=h
  refine ⟨v2,_,h1,h2,?_⟩
  show Sl _ kEvent _ (rReply p).events
  unfold rReply
  split <;> exact Sl.nil _ _ _ _
 | d p=>
  obtain ⟨rfl,b,rfl,hD⟩:=hR
  exact ⟨261,mt261 _,en261,heed_Reply _ hD⟩
end
abbrev callC (c:CallS) (uv vv ev:Value):List Value:=[.int .i64 c.who,.int .i64 c.nth] ++ opC c.op uv ++ [.int .i64 c.stripe,.int .u64 c.by_,.int .i64 c.began,.int .i64 c.placed,.int .i64 c.ended] ++ replyC c.reply vv ev
def kCall:Kn CallS where
 k:=18
 R:=fun t x c=>∃ uv vv ev,c = callC x uv vv ev ∧ Sl t kStr uv x.op.users ∧ Sl t kPres vv x.reply.values ∧ Sl t kEvent ev x.reply.events
 len:=by rintro t x c ⟨uv,vv,ev,rfl,_⟩; rfl
 one:=by
  rintro t x c ⟨uv,vv,ev,rfl,h1,h2,h3⟩ u hu
  simp at hu
  rcases hu with rfl | rfl | rfl | rfl | rfl | rfl | rfl | rfl | rfl | rfl | rfl | rfl | rfl | rfl | rfl | rfl | rfl | rfl <;> first | rfl | exact h1.cell | exact h2.cell | exact h3.cell
 stp:=by
  rintro T t t' x c s hT ⟨uv,vv,ev,rfl,h1,h2,h3⟩
  exact ⟨uv,vv,ev,rfl,h1.step s hT,h2.step s hT,h3.step s hT⟩
def kPtr:Kn Nat:=Kn.flat 1 (fun b=>[.pointer (some ⟨b,0,none⟩)]) (fun _=>rfl) (fun x u hu=>by rw [List.mem_singleton.1 hu]; rfl)
def NowR (t:TW) (i mb:Nat) (nv:Value):Option ProcS → Prop
 | none=>nv = .nilIface
 | some p=>∃ tt u,nv = .iface tt u ∧ PR t i mb tt u p
theorem NowR.step {t t' : TW} {i mb:Nat} {nv:Value} {p:Option ProcS} {T:Tag → Prop} (h:NowR t i mb nv p) (s:Step T t t') (h1:¬ T (.obj i 0)) (h2:¬ T (.ep i 0)) (h3:¬ T (.mp i 0)) (h4:¬ T (.al i 0)) (h0:¬ T .fz):NowR t' i mb nv p:=by
 cases p with
 | none=>exact h
 | some p=>
  obtain ⟨tt,u,e,g⟩:=h
  exact ⟨tt,u,e,g.step s h1 h2 h3 h4 h0⟩
theorem NowR.n {t t' : TW} {i mb:Nat} {nv:Value} {p:Option ProcS} {T:Tag → Prop} (h:NowR t i mb nv p) (s:Step T t t') (h1:¬ T (.obj i 0):=by first | exact id | nofun | (rintro (h | h) <;> cases h) | (rintro (h | h | h) <;> cases h)) (h2:¬ T (.ep i 0):=by first | exact id | nofun | (rintro (h | h) <;> cases h) | (rintro (h | h | h) <;> cases h)) (h3:¬ T (.mp i 0):=by first | exact id | nofun | (rintro (h | h) <;> cases h) | (rintro (h | h | h) <;> cases h)) (h4:¬ T (.al i 0):=by first | exact id | nofun | (rintro (h | h) <;> cases h) | (rintro (h | h | h) <;> cases h)) (h0:¬ T .fz:=by first | exact id | nofun | (rintro (h | h) <;> cases h) | (rintro (h | h | h) <;> cases h)):NowR t' i mb nv p:=h.step s h1 h2 h3 h4 h0
abbrev clC (c:ClientS) (ov nv:Value) (mb:Nat):List Value:=[ov,.int .i64 (c.at_:Int),.pointer (some ⟨mb,0,none⟩),nv,.int .i64 c.call]
def IsClient (t:TW) (i b:Nat) (c:ClientS):Prop:=∃ ov mb nv,Bk t b (clC c ov nv mb) 113 (.client i) ∧ Sl t kOp ov c.ops ∧ IsMine t i mb c.mine ∧ NowR t i mb nv c.now
def CT (i:Nat):Tag → Prop:=fun z=>z = .client i ∨ z = .mine i ∨ z = .obj i 0 ∨ z = .ep i 0 ∨ z = .mp i 0 ∨ z = .al i 0 ∨ z = .fz
theorem IsClient.step {t t' : TW} {i b:Nat} {c:ClientS} {T:Tag → Prop} (h:IsClient t i b c) (s:Step T t t') (hT:∀ z,CT i z → ¬ T z):IsClient t' i b c:=by
 obtain ⟨ov,mb,nv,g1,g2,g3,g4⟩:=h
 exact ⟨ov,mb,nv,g1.step s (hT _ (.inl rfl)),g2.step s (hT _ (by simp [CT])),g3.step s (hT _ (by simp [CT])) (hT _ (by simp [CT])),g4.step s (hT _ (by simp [CT])) (hT _ (by simp [CT])) (hT _ (by simp [CT])) (hT _ (by simp [CT])) (hT _ (by simp [CT]))⟩
abbrev runC (r:RunS) (hb:Nat) (cv:Value) (bs:Nat) (kv:Value):List Value:=[.pointer (some ⟨hb,0,none⟩),cv,.pointer (some ⟨bs,0,none⟩),.int .i64 r.sweep,.int .i64 r.n,.int .i64 r.ticks,.int .i64 r.sweeps,kv]
def Cls (t:TW) (ps:List Nat) (cs:List ClientS):Prop:=ps.length = cs.length ∧ ∀ i b c,ps[i]? = some b → cs[i]? = some c → IsClient t i b c
theorem Cls.step {t t' : TW} {ps:List Nat} {cs:List ClientS} {T:Tag → Prop} (h:Cls t ps cs) (s:Step T t t') (hT:∀ i z,CT i z → ¬ T z):Cls t' ps cs:=⟨h.1,fun i b c h1 h2=>(h.2 i b c h1 h2).step s (hT i)⟩
structure IsRun (t:TW) (rb:Nat) (r:RunS):Prop where
 out:∃ hb cv bs kv ps,Bk t rb (runC r hb cv bs kv) 107 .run ∧ IsHall t hb r.h ∧ Sl t kPtr cv ps ∧ Cls t ps r.clients ∧ IsSw t bs r.sw ∧ Row t .calls 0 61 kCall kv r.calls
theorem run_began {rb hb bs:Nat} {cv kv uv vv ev:Value} {r:RunS} {c:CallS} (t:TW) (hr:Bk t rb (runC r hb cv bs kv) 107 .run) (hk:Row t .calls 0 61 kCall kv r.calls) (hu:Sl t kStr uv c.op.users) (hv:Sl t kPres vv c.reply.values) (he:Sl t kEvent ev c.reply.events) (hl:r.calls.length ≤ 900000):Cal 63 [.pointer (some ⟨rb,0,none⟩),.agg (callC c uv vv ev).toArray] t (fun z=>z = .run ∨ z = .calls) (fun v t' => v = .int .i64 (r.calls.length:Int) ∧ ∃ kv2,Bk t' rb (runC (rBegan r c) hb cv bs kv2) 107 .run ∧ Row t' .calls 0 61 kCall kv2 (rBegan r c).calls):=by
 obtain ⟨Ak,ck,rfl,_⟩:=hk.form
 refine Cal.en Tryz.func63 rfl Tryz.ntmps63<|WC.rs<|WL.e (Ef.bx (.loc 3) (cs:=[.int .i64 c.who,.int .i64 c.nth,.int .i64 c.op.kind,.string c.op.user,.int .i64 c.op.id,.int .i64 c.op.status,.int .i64 c.op.prio,.int .u64 c.op.ttl,uv,.int .i64 c.stripe,.int .u64 c.by_,.int .i64 c.began,.int .i64 c.placed,.int .i64 c.ended,.int .i64 c.reply.err,vv,ev,.bool c.reply.lost]) rfl) ?_
 rintro _ t1 ⟨b3,rfl,s1,hb3,nb3,mb3⟩
 obtain ⟨he,hk,hr,hu,hv⟩:=Q5 (he.n s1) (hk.n s1) (hr.n s1) (hu.n s1) (hv.n s1)
 refine WL.a rfl<|WL.go<|WC.rs<|WL.m rfl<|WL.f (Fr.ncP rfl)<|WL.q 4 rfl fa107_4<|WL.r (Rd.ld rfl sc3 (hr.cell rfl))<|WL.q 11 rfl fa61_5<|WL.e0 (Ef.T [.int .i64 r.n] rfl rfl hb3 sz3 (.inl nb3)) ?_
 rintro _ t2 ⟨u2,s2,hb3'⟩
 have hb3:Bk t2 b3 [.int .i64 c.who,.int .i64 c.nth,.int .i64 c.op.kind,.string c.op.user,.int .i64 c.op.id,.int .i64 c.op.status,.int .i64 c.op.prio,.int .u64 c.op.ttl,uv,.int .i64 c.stripe,.int .u64 c.by_,.int .i64 r.n,.int .i64 c.placed,.int .i64 c.ended,.int .i64 c.reply.err,vv,ev,.bool c.reply.lost] _ _:=hb3'
 clear hb3'
 obtain ⟨he,hk,hr,hu,hv⟩:=Q5 (he.n s2) (hk.n s2) (hr.n s2) (hu.n s2) (hv.n s2)
 refine WL.q 12 rfl fa61_6<|WL.e0 (Ef.T [.int .i64 (-1)] rfl rfl hb3 sz3 (.inl nb3)) ?_
 rintro _ t3 ⟨u3,s3,hb3'⟩
 have hb3:Bk t3 b3 [.int .i64 c.who,.int .i64 c.nth,.int .i64 c.op.kind,.string c.op.user,.int .i64 c.op.id,.int .i64 c.op.status,.int .i64 c.op.prio,.int .u64 c.op.ttl,uv,.int .i64 c.stripe,.int .u64 c.by_,.int .i64 r.n,.int .i64 (-1),.int .i64 c.ended,.int .i64 c.reply.err,vv,ev,.bool c.reply.lost] _ _:=hb3'
 clear hb3'
 obtain ⟨he,hk,hr,hu,hv⟩:=Q5 (he.n s3) (hk.n s3) (hr.n s3) (hu.n s3) (hv.n s3)
 refine WL.q 13 rfl fa61_7<|WL.e0 (Ef.T [.int .i64 (-1)] rfl rfl hb3 sz3 (.inl nb3)) ?_
 rintro _ t4 ⟨u4,s4,hb3'⟩
 have hb3:Bk t4 b3 [.int .i64 c.who,.int .i64 c.nth,.int .i64 c.op.kind,.string c.op.user,.int .i64 c.op.id,.int .i64 c.op.status,.int .i64 c.op.prio,.int .u64 c.op.ttl,uv,.int .i64 c.stripe,.int .u64 c.by_,.int .i64 r.n,.int .i64 (-1),.int .i64 (-1),.int .i64 c.reply.err,vv,ev,.bool c.reply.lost] _ _:=hb3'
 clear hb3'
 obtain ⟨he,hk,hr,hu,hv⟩:=Q5 (he.n s4) (hk.n s4) (hr.n s4) (hu.n s4) (hv.n s4)
 refine WL.go<|WC.drs (fun w=>At w b3 0 [.int .i64 c.who,.int .i64 c.nth,.int .i64 c.op.kind,.string c.op.user,.int .i64 c.op.id,.int .i64 c.op.status,.int .i64 c.op.prio,.int .u64 c.op.ttl,uv,.int .i64 c.stripe,.int .u64 c.by_,.int .i64 r.n,.int .i64 (-1),.int .i64 (-1),.int .i64 c.reply.err,vv,ev,.bool c.reply.lost] ∧ True) .body (⟨hb3.at rfl,trivial⟩) ?_
 obtain ⟨hb3,he,hk,hr,hu,hv⟩:=Q6 (hb3.n (TW.drew_step _)) (he.n (TW.drew_step _)) (hk.n (TW.drew_step _)) (hr.n (TW.drew_step _)) (hu.n (TW.drew_step _)) (hv.n (TW.drew_step _))
 refine DL.m 0 rfl rfl<|DL.m 1 rfl rfl<|DL.fx 2 rfl (Fr.ncP rfl)<|DL.fx 3 rfl (Fr.q 7 rfl fa107_7)<|DL.hx 5 rfl (fun w hw=>Rd.la rfl ag61 hw.1) ?_
 refine DL.e2 (i:=4) (j:=6) (by kernel_rfl) ?_ ?_
 focus
  refine DOp.r rfl (Rd.ld rfl sc35 (hr.cell rfl))<|DL.ex 6 rfl (Ef.bs (.loc 18) (vs:=[(0,.agg #[.int .i64 c.who,.int .i64 c.nth,.int .i64 c.op.kind,.string c.op.user,.int .i64 c.op.id,.int .i64 c.op.status,.int .i64 c.op.prio,.int .u64 c.op.ttl,uv,.int .i64 c.stripe,.int .u64 c.by_,.int .i64 r.n,.int .i64 (-1),.int .i64 (-1),.int .i64 c.reply.err,vv,ev,.bool c.reply.lost])]) (cs:=[.int .i64 c.who,.int .i64 c.nth,.int .i64 c.op.kind,.string c.op.user,.int .i64 c.op.id,.int .i64 c.op.status,.int .i64 c.op.prio,.int .u64 c.op.ttl,uv,.int .i64 c.stripe,.int .u64 c.by_,.int .i64 r.n,.int .i64 (-1),.int .i64 (-1),.int .i64 c.reply.err,vv,ev,.bool c.reply.lost]) (e:=61) rfl (fun w=>by kernel_rfl)) (fun _ _ ⟨_,_,s,_⟩=>⟨hb3.a s,trivial⟩) ?_
  rintro _ t5 ⟨b18,rfl,s5,hb18,nb18,_⟩
  obtain ⟨hb3,he,hk,hr,hu,hv⟩:=Q6 (hb3.n s5) (he.n s5) (hk.n s5) (hr.n s5) (hu.n s5) (hv.n s5)
  refine DL.ex 7 rfl (Ef.ap1 (dk:=kCall) (y1:=cBeg r c) rfl rfl hb18 ⟨_,_,_,rfl,hu,hv,he⟩ sl35 el61 (Nat.succ_pos 17) hk (Nat.zero_le _) (by omega) (by decide) nofun (.inr (.inr rfl))) (fun _ _ ⟨s,_⟩=>⟨hb3.a s,trivial⟩) ?_
  rintro v19 t6 ⟨s6,hk2⟩
  obtain ⟨hb3,hr⟩:=Q2 (hb3.n s6) (hr.n s6)
  obtain ⟨A2,c2,rfl,_⟩:=hk2.form
  refine DL.fx 8 rfl (Fr.ncP rfl)<|DL.fx 9 rfl (Fr.q 7 rfl fa107_7)<|DL.e0x 10 rfl (Ef.T [.slice A2 (r.calls ++ [cBeg r c]).length c2] rfl rfl hr sz35 (.inr (.inl rfl))) (fun _ _ ⟨_,s,_⟩=>⟨hb3.a s,trivial⟩) ?_
  rintro _ t7 ⟨u7,s7,hr'⟩
 rotate_left
 focus
  refine DOp.e rfl (Ef.bs (.loc 18) (vs:=[(0,.agg #[.int .i64 c.who,.int .i64 c.nth,.int .i64 c.op.kind,.string c.op.user,.int .i64 c.op.id,.int .i64 c.op.status,.int .i64 c.op.prio,.int .u64 c.op.ttl,uv,.int .i64 c.stripe,.int .u64 c.by_,.int .i64 r.n,.int .i64 (-1),.int .i64 (-1),.int .i64 c.reply.err,vv,ev,.bool c.reply.lost])]) (cs:=[.int .i64 c.who,.int .i64 c.nth,.int .i64 c.op.kind,.string c.op.user,.int .i64 c.op.id,.int .i64 c.op.status,.int .i64 c.op.prio,.int .u64 c.op.ttl,uv,.int .i64 c.stripe,.int .u64 c.by_,.int .i64 r.n,.int .i64 (-1),.int .i64 (-1),.int .i64 c.reply.err,vv,ev,.bool c.reply.lost]) (e:=61) rfl (fun w=>by kernel_rfl)) (fun _ _ ⟨_,_,s,_⟩=>⟨hb3.a s,trivial⟩) ?_
  rintro _ t8 ⟨b18,rfl,s8,hb18,nb18,_⟩
  obtain ⟨hb3,he,hk,hr,hu,hv⟩:=Q6 (hb3.n s8) (he.n s8) (hk.n s8) (hr.n s8) (hu.n s8) (hv.n s8)
  refine DL.rx 4 rfl (Rd.ld rfl sc35 (hr.cell rfl))<|DL.ex 7 rfl (Ef.ap1 (dk:=kCall) (y1:=cBeg r c) rfl rfl hb18 ⟨_,_,_,rfl,hu,hv,he⟩ sl35 el61 (Nat.succ_pos 17) hk (Nat.zero_le _) (by omega) (by decide) nofun (.inr (.inr rfl))) (fun _ _ ⟨s,_⟩=>⟨hb3.a s,trivial⟩) ?_
  rintro v19 t9 ⟨s9,hk2⟩
  obtain ⟨hb3,hr⟩:=Q2 (hb3.n s9) (hr.n s9)
  obtain ⟨A2,c2,rfl,_⟩:=hk2.form
  refine DL.fx 8 rfl (Fr.ncP rfl)<|DL.fx 9 rfl (Fr.q 7 rfl fa107_7)<|DL.e0x 10 rfl (Ef.T [.slice A2 (r.calls ++ [cBeg r c]).length c2] rfl rfl hr sz35 (.inr (.inl rfl))) (fun _ _ ⟨_,s,_⟩=>⟨hb3.a s,trivial⟩) ?_
  rintro _ t7 ⟨u10,s7,hr'⟩
 all_goals
  have hr:Bk t7 rb [.pointer (some ⟨hb,0,none⟩),cv,.pointer (some ⟨bs,0,none⟩),.int .i64 r.sweep,.int .i64 r.n,.int .i64 r.ticks,.int .i64 r.sweeps,.slice A2 (r.calls ++ [cBeg r c]).length c2] _ _:=hr'
  clear hr'
  have hk2:=hk2.n s7
  refine DL.D<|WQ.n<|WC.rs<|WL.m rfl<|WL.f (Fr.ncP rfl)<|WL.q 7 rfl fa107_7<|WL.r (Rd.ld rfl sc35 (hr.cell rfl))<|WL.f (Fr.ln rfl Tryz.underlying35)<|WL.f (Fr.bo rfl rfl (BO.sub (by omega) (by simp only [List.length_append,List.length_cons,List.length_nil]; omega)))<|WL.a rfl ?_
  exact WL.go<|WC.ret<|WQ.ret rfl (.tmp rfl .nil) (⟨by show Value.int _ _ = _; congr 1; simp only [List.length_append,List.length_cons,List.length_nil]; omega,_,hr,hk2⟩)
def Tag.cli:Tag → Option Nat
 | .client i=>some i
 | .mine i=>some i
 | .obj i _=>some i
 | .ep i _=>some i
 | .mp i _=>some i
 | .al i _=>some i
 | _=>none
theorem CT.cli {j:Nat} {z:Tag} (h:CT j z):z.cli = some j ∨ z = .fz:=by
 rcases h with rfl | rfl | rfl | rfl | rfl | rfl | rfl <;> first | exact .inl rfl | exact .inr rfl
def ClsX (t:TW) (ps:List Nat) (cs:List ClientS) (i:Nat):Prop:=ps.length = cs.length ∧ ∀ j b c,j ≠ i → ps[j]? = some b → cs[j]? = some c → IsClient t j b c
abbrev XT (i:Nat) (T:Tag → Prop):Prop:=∀ j,j ≠ i → ∀ z,CT j z → ¬ T z
theorem ClsX.step {t t' : TW} {ps:List Nat} {cs:List ClientS} {i:Nat} {T:Tag → Prop} (h:ClsX t ps cs i) (s:Step T t t') (hT:XT i T):ClsX t' ps cs i:=⟨h.1,fun j b c hj h1 h2=>(h.2 j b c hj h1 h2).step s (hT j hj)⟩
theorem xt0 {i:Nat}:XT i No:=fun _ _ _ _ h=>h
theorem xt1 {i:Nat} {g:Tag} (h:g.cli = none ∨ g.cli = some i) (hg:g ≠ .fz):XT i (fun z=>z = g):=fun j hj z hz e=>by
 subst e
 rcases hz.cli with e | e
 ·rcases h with h | h
  ·rw [e] at h
   cases h
  ·rw [e] at h
   exact hj (Option.some.inj h)
 ·exact hg e
theorem xt2 {i:Nat} {A B:Tag → Prop} (h1:XT i A) (h2:XT i B):XT i (fun z=>A z ∨ B z):=fun j hj z hz h=>h.elim (h1 j hj z hz) (h2 j hj z hz)
theorem xtP {i:Nat}:XT i (pT i):=fun j hj z hz h=>by
 rcases h with h | h | h | ⟨s,h | ⟨k,h | h⟩⟩ | h | h | h | h | h <;> subst h
 all_goals rcases hz.cli with e | e
 all_goals first | cases e; done | (have e2:=Option.some.inj e; exact hj e2.symm)
theorem Cls.at_ {t:TW} {ps:List Nat} {cs:List ClientS} {i:Nat} {c:ClientS} (h:Cls t ps cs) (hc:cs[i]? = some c):∃ b,ps[i]? = some b ∧ IsClient t i b c ∧ ClsX t ps cs i:=by
 have hlt:=(List.getElem?_eq_some_iff.1 hc).1
 have hp:=List.getElem?_eq_getElem (l:=ps) (i:=i) (by rw [h.1]; exact hlt)
 exact ⟨_,hp,h.2 i _ c hp hc,h.1,fun j b c _ h1 h2=>h.2 j b c h1 h2⟩
theorem ClsX.all {t:TW} {ps:List Nat} {cs:List ClientS} {i b:Nat} {c:ClientS} (h:ClsX t ps cs i) (hp:ps[i]? = some b) (hc:IsClient t i b c):Cls t ps (cs.set i c):=by
 refine ⟨by rw [List.length_set]; exact h.1,fun j b2 c2 h1 h2=>?_⟩
 by_cases e:j = i
 ·subst e
  rw [List.getElem?_set_self (by have:=(List.getElem?_eq_some_iff.1 hp).1; rw [← h.1]; exact this)] at h2
  rw [hp] at h1
  obtain rfl:=Option.some.inj h1
  obtain rfl:=Option.some.inj h2
  exact hc
 rw [List.getElem?_set_ne (fun h=>e h.symm)] at h2
 exact h.2 j b2 c2 e h1 h2
abbrev ST (T:Tag → Prop):Prop:=¬ T (.sweep 0) ∧ ¬ T (.obj 8 0) ∧ ¬ T .fz
theorem IsSw.step' {t t' : TW} {b:Nat} {p:SwProc} {T:Tag → Prop} (h:IsSw t b p) (s:Step T t t') (hT:ST T):IsSw t' b p:=h.step s hT.1 hT.2.1 hT.2.2
theorem st0:ST No:=⟨id,id,id⟩
theorem stP {i:Nat} (hi:i < 8):ST (pT i):=by
 have h8:Tag.obj 8 0 ≠ Tag.obj i 0:=fun e=>by
  have:=(Tag.obj.inj e).1
  omega
 refine ⟨?_,?_,?_⟩ <;> rintro (h | h | h | ⟨s,h | ⟨k,h | h⟩⟩ | h | h | h | h | h) <;> first | cases h; done | exact h8 h
theorem Fr.nowq {n:Sz} {E:Env} {d:Option Nat} {ty t' : TypeId} {pos:String} {af:Array Edge} {g:Option (Nat × Bool)} {x:Operand} {nv:Value} {t:TW} {i mb:Nat} {o:Option ProcS} (h:ev E x = some nv) (hN:NowR t i mb nv o):Fr n ⟨d,.binOp .eql 111 x (.const .nilIface) t', ty,pos,af,g⟩ E (.bool o.isNone):=by
 cases o with
 | none=>
  obtain rfl:nv = .nilIface:=hN
  exact Fr.nilT h Tryz.underlying111
 | some p=>
  obtain ⟨tt,u,rfl,_⟩:=hN
  exact Fr.nilF h Tryz.underlying111
theorem NowR.some_ {t:TW} {i mb:Nat} {nv:Value} {o:Option ProcS} (h:NowR t i mb nv o) (e:o.isNone = false):∃ p tt u,o = some p ∧ nv = .iface tt u ∧ PR t i mb tt u p:=by
 cases o with
 | none=>cases e
 | some p=>
  obtain ⟨tt,u,h1,h2⟩:=h
  exact ⟨p,tt,u,rfl,h1,h2⟩
theorem run_proc {rb hb bs cb mb i:Nat} {cv kv ov nv uv:Value} {r:RunS} {c:ClientS} {x:Opr} (t:TW) (hr:Bk t rb (runC r hb cv bs kv) 107 .run) (hH:IsHall t hb r.h) (hc:Bk t cb (clC c ov nv mb) 113 (.client i)) (hu:Sl t kStr uv x.users) (hul:x.users.length ≤ 900) (hus:x.user.size ≤ 1000000) (huz:∀ u ∈ x.users,u.size ≤ 1000000) (hn0:0 ≤ r.h.cfg.stripes) (hn:r.h.cfg.stripes ≤ 1000):Cal 62 [.pointer (some ⟨rb,0,none⟩),.pointer (some ⟨cb,0,none⟩),.int .i64 (i:Int),.agg (opC x uv).toArray] t (fun z=>z = .obj i 0 ∨ z = .proc i 0) (fun r' t' => ∃ tt u,r' = .iface tt u ∧ PR t' i mb tt u (newP r.h i x)):=by
 have hst:stripeOf x.user r.h.cfg.stripes = (((stripeOf x.user r.h.cfg.stripes).toNat:Nat):Int):=by have:=stripeOf_nn x.user r.h.cfg.stripes; omega
 refine Cal.en Tryz.func62 rfl Tryz.ntmps62<|WC.rs<|WL.e (Ef.bx (.fz) (cs:=[.int .i64 x.kind,.string x.user,.int .i64 x.id,.int .i64 x.status,.int .i64 x.prio,.int .u64 x.ttl,uv]) rfl) ?_
 rintro _ t1 ⟨b7,rfl,s1,hb7,nb7,mb7⟩
 obtain ⟨hH,hc,hr,hu⟩:=Q4 (hH.n s1) (hc.n s1) (hr.n s1) (hu.n s1)
 refine WL.a rfl<|WL.go<|WC.seq<|WC.rs<|WL.q 0 rfl fa56_0<|WL.r (Rd.ld rfl sc3 (hb7.cell rfl))<|WL.go<|WC.block<|WC.seq<|WC.rs ?_
 refine WL.f (Fr.bo rfl rfl BO.eq)<|WL.a rfl<|WL.go ?_
 refine WC.condS rfl (fun hcond11=>?_) (fun hcond11=>?_)
 ·have hw:x.kind = 1 ∨ x.kind = 2 ∨ x.kind = 3:=by first | (have:=dcT hcond11; omega) | (have:=dcT hcond11_2; omega) | (have:=dcT hcond11_3; omega)
  refine WC.skip<|WQ.n<|WC.condT<|WC.drs (fun w=>At w rb 0 [.pointer (some ⟨hb,0,none⟩)] ∧ True) (.blk (.then_ .body)) (⟨hr.at rfl,trivial⟩) ?_
  obtain ⟨hH,hb7,hr,hu⟩:=Q4 (hH.n (TW.drew_step _)) (hb7.n (TW.drew_step _)) (hr.n (TW.drew_step _)) (hu.n (TW.drew_step _))
  refine DL.m 0 rfl rfl<|DL.fx 1 rfl (Fr.ncP rfl)<|DL.fx 2 rfl (Fr.q 0 rfl fa107_0)<|DL.m 4 rfl rfl<|DL.hx 3 rfl (fun w hw=>Rd.ld rfl sc103 (hw.1.one rfl))<|DL.rx 5 rfl (Rd.la rfl ag56 (hb7.at (vs:=[.int .i64 x.kind,.string x.user,.int .i64 x.id,.int .i64 x.status,.int .i64 x.prio,.int .u64 x.ttl,uv]) rfl))<|DL.ex 6 rfl (Ef.call rfl en76 (write_New (a:=i) (n:=0) (s:=(stripeOf x.user r.h.cfg.stripes).toNat) (i:Int) _ hH hst hu (by omega) hus (by omega)) (fun _ h=>h.elim)) (fun _ _ ⟨s,_⟩=>⟨hr.a s,trivial⟩) ?_
  rintro _ t2 ⟨s2,b21,rfl,m21,hW⟩
  exact DL.fx 7 rfl (Fr.mi rfl Tryz.underlying158 rfl)<|DL.fx 8 rfl (Fr.as rfl)<|DL.D<|WQ.n<|WC.ret<|WQ.br<|WQ.tr<|WQ.ret rfl (.tmp rfl .nil) (by unfold newP; rw [if_pos hw]; exact ⟨_,_,rfl,rfl,_,rfl,hW⟩)
 refine WC.rs<|WL.f (Fr.bo rfl rfl BO.eq)<|WL.a rfl<|WL.go ?_
 refine WC.condS rfl (fun hcond11_2=>?_) (fun hcond11_2=>?_)
 ·have hw:x.kind = 1 ∨ x.kind = 2 ∨ x.kind = 3:=by first | (have:=dcT hcond11; omega) | (have:=dcT hcond11_2; omega) | (have:=dcT hcond11_3; omega)
  refine WC.skip<|WQ.n<|WC.condT<|WC.drs (fun w=>At w rb 0 [.pointer (some ⟨hb,0,none⟩)] ∧ True) (.blk (.then_ .body)) (⟨hr.at rfl,trivial⟩) ?_
  obtain ⟨hH,hb7,hr,hu⟩:=Q4 (hH.n (TW.drew_step _)) (hb7.n (TW.drew_step _)) (hr.n (TW.drew_step _)) (hu.n (TW.drew_step _))
  refine DL.m 0 rfl rfl<|DL.fx 1 rfl (Fr.ncP rfl)<|DL.fx 2 rfl (Fr.q 0 rfl fa107_0)<|DL.m 4 rfl rfl<|DL.hx 3 rfl (fun w hw=>Rd.ld rfl sc103 (hw.1.one rfl))<|DL.rx 5 rfl (Rd.la rfl ag56 (hb7.at (vs:=[.int .i64 x.kind,.string x.user,.int .i64 x.id,.int .i64 x.status,.int .i64 x.prio,.int .u64 x.ttl,uv]) rfl))<|DL.ex 6 rfl (Ef.call rfl en76 (write_New (a:=i) (n:=0) (s:=(stripeOf x.user r.h.cfg.stripes).toNat) (i:Int) _ hH hst hu (by omega) hus (by omega)) (fun _ h=>h.elim)) (fun _ _ ⟨s,_⟩=>⟨hr.a s,trivial⟩) ?_
  rintro _ t3 ⟨s3,b21,rfl,m21,hW⟩
  exact DL.fx 7 rfl (Fr.mi rfl Tryz.underlying158 rfl)<|DL.fx 8 rfl (Fr.as rfl)<|DL.D<|WQ.n<|WC.ret<|WQ.br<|WQ.tr<|WQ.ret rfl (.tmp rfl .nil) (by unfold newP; rw [if_pos hw]; exact ⟨_,_,rfl,rfl,_,rfl,hW⟩)
 refine WC.rg<|WL.f (Fr.bo rfl rfl BO.eq)<|WL.a rfl<|WL.nil<|WQ.n ?_
 refine WC.condS rfl (fun hcond11_3=>?_) (fun hcond11_3=>?_)
 ·have hw:x.kind = 1 ∨ x.kind = 2 ∨ x.kind = 3:=by first | (have:=dcT hcond11; omega) | (have:=dcT hcond11_2; omega) | (have:=dcT hcond11_3; omega)
  refine WC.drs (fun w=>At w rb 0 [.pointer (some ⟨hb,0,none⟩)] ∧ True) (.blk (.then_ .body)) (⟨hr.at rfl,trivial⟩) ?_
  obtain ⟨hH,hb7,hr,hu⟩:=Q4 (hH.n (TW.drew_step _)) (hb7.n (TW.drew_step _)) (hr.n (TW.drew_step _)) (hu.n (TW.drew_step _))
  refine DL.m 0 rfl rfl<|DL.fx 1 rfl (Fr.ncP rfl)<|DL.fx 2 rfl (Fr.q 0 rfl fa107_0)<|DL.m 4 rfl rfl<|DL.hx 3 rfl (fun w hw=>Rd.ld rfl sc103 (hw.1.one rfl))<|DL.rx 5 rfl (Rd.la rfl ag56 (hb7.at (vs:=[.int .i64 x.kind,.string x.user,.int .i64 x.id,.int .i64 x.status,.int .i64 x.prio,.int .u64 x.ttl,uv]) rfl))<|DL.ex 6 rfl (Ef.call rfl en76 (write_New (a:=i) (n:=0) (s:=(stripeOf x.user r.h.cfg.stripes).toNat) (i:Int) _ hH hst hu (by omega) hus (by omega)) (fun _ h=>h.elim)) (fun _ _ ⟨s,_⟩=>⟨hr.a s,trivial⟩) ?_
  rintro _ t4 ⟨s4,b21,rfl,m21,hW⟩
  exact DL.fx 7 rfl (Fr.mi rfl Tryz.underlying158 rfl)<|DL.fx 8 rfl (Fr.as rfl)<|DL.D<|WQ.n<|WC.ret<|WQ.br<|WQ.tr<|WQ.ret rfl (.tmp rfl .nil) (by unfold newP; rw [if_pos hw]; exact ⟨_,_,rfl,rfl,_,rfl,hW⟩)
 refine WC.seq<|WC.rs<|WL.f (Fr.bo rfl rfl BO.eq)<|WL.a rfl<|WL.go ?_
 refine WC.condS rfl (fun hcond23=>?_) (fun hcond23=>?_)
 ·have hw:¬ (x.kind = 1 ∨ x.kind = 2 ∨ x.kind = 3):=by have:=dcF hcond11; have:=dcF hcond11_2; have:=dcF hcond11_3; omega
  have hw2:x.kind = 4 ∨ x.kind = 5:=by first | (have:=dcT hcond23; omega) | (have:=dcT hcond23_2; omega)
  refine WC.skip<|WQ.n<|WC.condT<|WC.drs (fun w=>At w rb 0 [.pointer (some ⟨hb,0,none⟩)] ∧ True) (.blk (.then_ .body)) (⟨hr.at rfl,trivial⟩) ?_
  obtain ⟨hH,hb7,hr,hu⟩:=Q4 (hH.n (TW.drew_step _)) (hb7.n (TW.drew_step _)) (hr.n (TW.drew_step _)) (hu.n (TW.drew_step _))
  refine DL.m 0 rfl rfl<|DL.fx 1 rfl (Fr.ncP rfl)<|DL.fx 2 rfl (Fr.q 0 rfl fa107_0)<|DL.m 4 rfl rfl<|DL.hx 3 rfl (fun w hw=>Rd.ld rfl sc103 (hw.1.one rfl))<|DL.rx 5 rfl (Rd.la rfl ag56 (hb7.at (vs:=[.int .i64 x.kind,.string x.user,.int .i64 x.id,.int .i64 x.status,.int .i64 x.prio,.int .u64 x.ttl,uv]) rfl))<|DL.ex 6 rfl (Ef.call rfl en77 (read_New (a:=i) _ hH hu hul hus huz (by omega)) (fun _ h=>.inl h)) (fun _ _ ⟨s,_⟩=>⟨hr.a s,trivial⟩) ?_
  rintro _ t5 ⟨s5,b32,rfl,m32,hD⟩
  exact DL.fx 7 rfl (Fr.mi rfl Tryz.underlying188 rfl)<|DL.fx 8 rfl (Fr.as rfl)<|DL.D<|WQ.n<|WC.ret<|WQ.br<|WQ.tr<|WQ.ret rfl (.tmp rfl .nil) (by unfold newP; rw [if_neg hw,if_pos hw2]; exact ⟨_,_,rfl,rfl,_,rfl,hD⟩)
 refine WC.rg<|WL.f (Fr.bo rfl rfl BO.eq)<|WL.a rfl<|WL.nil<|WQ.n ?_
 refine WC.condS rfl (fun hcond23_2=>?_) (fun hcond23_2=>?_)
 ·have hw:¬ (x.kind = 1 ∨ x.kind = 2 ∨ x.kind = 3):=by have:=dcF hcond11; have:=dcF hcond11_2; have:=dcF hcond11_3; omega
  have hw2:x.kind = 4 ∨ x.kind = 5:=by first | (have:=dcT hcond23; omega) | (have:=dcT hcond23_2; omega)
  refine WC.drs (fun w=>At w rb 0 [.pointer (some ⟨hb,0,none⟩)] ∧ True) (.blk (.then_ .body)) (⟨hr.at rfl,trivial⟩) ?_
  obtain ⟨hH,hb7,hr,hu⟩:=Q4 (hH.n (TW.drew_step _)) (hb7.n (TW.drew_step _)) (hr.n (TW.drew_step _)) (hu.n (TW.drew_step _))
  refine DL.m 0 rfl rfl<|DL.fx 1 rfl (Fr.ncP rfl)<|DL.fx 2 rfl (Fr.q 0 rfl fa107_0)<|DL.m 4 rfl rfl<|DL.hx 3 rfl (fun w hw=>Rd.ld rfl sc103 (hw.1.one rfl))<|DL.rx 5 rfl (Rd.la rfl ag56 (hb7.at (vs:=[.int .i64 x.kind,.string x.user,.int .i64 x.id,.int .i64 x.status,.int .i64 x.prio,.int .u64 x.ttl,uv]) rfl))<|DL.ex 6 rfl (Ef.call rfl en77 (read_New (a:=i) _ hH hu hul hus huz (by omega)) (fun _ h=>.inl h)) (fun _ _ ⟨s,_⟩=>⟨hr.a s,trivial⟩) ?_
  rintro _ t6 ⟨s6,b32,rfl,m32,hD⟩
  exact DL.fx 7 rfl (Fr.mi rfl Tryz.underlying188 rfl)<|DL.fx 8 rfl (Fr.as rfl)<|DL.D<|WQ.n<|WC.ret<|WQ.br<|WQ.tr<|WQ.ret rfl (.tmp rfl .nil) (by unfold newP; rw [if_neg hw,if_pos hw2]; exact ⟨_,_,rfl,rfl,_,rfl,hD⟩)
 refine WC.skip<|WQ.bn<|WQ.n<|WC.drs (fun w=>At w rb 0 [.pointer (some ⟨hb,0,none⟩)] ∧ At w cb 2 [.pointer (some ⟨mb,0,none⟩)] ∧ True) .body (⟨hr.at rfl,hc.at rfl,trivial⟩) ?_
 obtain ⟨hH,hb7,hc,hr,hu⟩:=Q5 (hH.n (TW.drew_step _)) (hb7.n (TW.drew_step _)) (hc.n (TW.drew_step _)) (hr.n (TW.drew_step _)) (hu.n (TW.drew_step _))
 refine DL.m 0 rfl rfl<|DL.fx 1 rfl (Fr.ncP rfl)<|DL.fx 2 rfl (Fr.q 0 rfl fa107_0)<|DL.m 4 rfl rfl<|DL.fx 5 rfl (Fr.ncP rfl)<|DL.fx 6 rfl (Fr.q 2 rfl fa113_2)<|DL.m 8 rfl rfl<|DL.hx 3 rfl (fun w hw=>Rd.ld rfl sc103 (hw.1.one rfl))<|DL.hx 7 rfl (fun w hw=>Rd.ld rfl sc109 (hw.2.1.one rfl))<|DL.rx 9 rfl (Rd.la rfl ag56 (hb7.at (vs:=[.int .i64 x.kind,.string x.user,.int .i64 x.id,.int .i64 x.status,.int .i64 x.prio,.int .u64 x.ttl,uv]) rfl)) ?_
 refine DL.ex 10 rfl (Ef.call rfl en78 (heed_New (a:=i) (s:=(stripeOf x.user r.h.cfg.stripes).toNat) (N:=r.h.cfg.stripes.toNat) _ hH (by omega) (by omega) hst hus hu (by omega)) (fun _ h=>h)) (fun _ _ ⟨s,_⟩=>⟨(hr.step s (by rintro (h | h) <;> cases h)).at rfl,(hc.step s (by rintro (h | h) <;> cases h)).at rfl,trivial⟩) ?_
 rintro _ t7 ⟨s7,b44,rfl,m44,hD⟩
 have hw:¬ (x.kind = 1 ∨ x.kind = 2 ∨ x.kind = 3):=by have:=dcF hcond11; have:=dcF hcond11_2; have:=dcF hcond11_3; omega
 have hw2:¬ (x.kind = 4 ∨ x.kind = 5):=by have:=dcF hcond23; have:=dcF hcond23_2; omega
 exact DL.fx 11 rfl (Fr.mi rfl Tryz.underlying190 rfl)<|DL.fx 12 rfl (Fr.as rfl)<|DL.D<|WQ.n<|WC.ret<|WQ.ret rfl (.tmp rfl .nil) (by unfold newP; rw [if_neg hw,if_neg hw2]; exact ⟨_,_,rfl,rfl,_,rfl,hD⟩)
abbrev cT (i:Nat):Tag → Prop:=fun z=>z = .run ∨ z = .calls ∨ z = .client i ∨ z = .proc i 0 ∨ pT i z
theorem cTp {i:Nat}:∀ z,pT i z → cT i z:=fun _ h=>.inr (.inr (.inr (.inr h)))
theorem cTo {i:Nat}:∀ z,(z = .obj i 0 ∨ z = .proc i 0) → cT i z:=fun _ h=>by rcases h with h | h <;> simp [cT,pT,h]
theorem cTr {i:Nat}:∀ z,(z = .run ∨ z = .calls) → cT i z:=fun _ h=>h.elim .inl fun h=>.inr (.inl h)
theorem stO {i:Nat} (hi:i < 8):ST (fun z=>z = .obj i 0 ∨ z = .proc i 0):=by
 have h8:Tag.obj 8 0 ≠ Tag.obj i 0:=fun e=>by
  have:=(Tag.obj.inj e).1
  omega
 refine ⟨?_,?_,?_⟩ <;> rintro (h | h) <;> first | cases h; done | exact h8 h
theorem stRC:ST (fun z=>z = .run ∨ z = .calls):=⟨(by rintro (h | h) <;> cases h),(by rintro (h | h) <;> cases h),(by rintro (h | h) <;> cases h)⟩
theorem xtO {i:Nat}:XT i (fun z=>z = .obj i 0 ∨ z = .proc i 0):=fun j hj z hz h=>by
 rcases h with h | h <;> subst h
 all_goals rcases hz.cli with e | e
 all_goals first | cases e; done | (have e2:=Option.some.inj e; exact hj e2.symm)
theorem xtRC {i:Nat}:XT i (fun z=>z = .run ∨ z = .calls):=xt2 (xt1 (.inl rfl) nofun) (xt1 (.inl rfl) nofun)
theorem modify_set {α:Type} {l:List α} {j:Nat} {x:α} (f:α → α) (h:l[j]? = some x):l.modify j f = l.set j (f x):=Go.ChangeMaps.modify_eq_set f l j x h
theorem rBegins_now {c:ClientS} (h:rBegins c = true):c.now = none ∧ c.at_ < c.ops.length:=by
 unfold rBegins at h
 simp only [Bool.and_eq_true,Option.isNone_iff_eq_none,decide_eq_true_eq] at h
 exact ⟨h.1,by omega⟩
theorem rPre_h (r:RunS) (i:Nat) (c:ClientS):(rPre r i c).1.h = r.h ∧ (rPre r i c).1.n = r.n ∧ (rPre r i c).1.clients = r.clients ∧ (rPre r i c).1.sw = r.sw ∧ (rPre r i c).2.mine = c.mine ∧ (rPre r i c).2.ops = c.ops:=by
 unfold rPre
 split <;> exact ⟨rfl,rfl,rfl,rfl,rfl,rfl⟩
theorem clientStep_in {r:RunS} {i:Nat} {c:ClientS} (hc:r.clients[i]? = some c):clientStep r (i:Int) = match (rPre r i c).2.now with
   | none=>(rSetC (rPre r i c).1 i (rPre r i c).2,rBegins c)
   | some p=>if pEnabled r.h p = false then (rSetC (rPre r i c).1 i (rPre r i c).2,rBegins c) else (rMove (rPre r i c).1 i (rPre r i c).2 p,true):=by
 have hlt:=(List.getElem?_eq_some_iff.1 hc).1
 unfold clientStep
 rw [if_neg (by omega),Int.toNat_natCast,hc]
 rfl
theorem clientStep_none {r:RunS} {i:Nat} {c:ClientS} (hc:r.clients[i]? = some c) (h:(rPre r i c).2.now = none):clientStep r (i:Int) = (rSetC (rPre r i c).1 i (rPre r i c).2,rBegins c):=by
 rw [clientStep_in hc,h]
theorem clientStep_off {r:RunS} {i:Nat} {c:ClientS} {p:ProcS} (hc:r.clients[i]? = some c) (h:(rPre r i c).2.now = some p) (he:pEnabled r.h p = false):clientStep r (i:Int) = (rSetC (rPre r i c).1 i (rPre r i c).2,rBegins c):=by
 rw [clientStep_in hc,h]
 simp only
 rw [if_pos he]
theorem clientStep_mv {r:RunS} {i:Nat} {c:ClientS} {p:ProcS} (hc:r.clients[i]? = some c) (h:(rPre r i c).2.now = some p) (he:pEnabled r.h p = true):clientStep r (i:Int) = (rMove (rPre r i c).1 i (rPre r i c).2 p,true):=by
 rw [clientStep_in hc,h]
 simp only
 rw [if_neg (by rw [he]; decide)]
theorem IsRun.set_ {t:TW} {rb hb bs i cb mb:Nat} {cv kv ov nv:Value} {ps:List Nat} {r1:RunS} {c1:ClientS} (hr:Bk t rb (runC r1 hb cv bs kv) 107 .run) (hH:IsHall t hb r1.h) (hps:Sl t kPtr cv ps) (hX:ClsX t ps r1.clients i) (hpi:ps[i]? = some cb) (hc:Bk t cb (clC c1 ov nv mb) 113 (.client i)) (ho:Sl t kOp ov c1.ops) (hM:IsMine t i mb c1.mine) (hN:NowR t i mb nv c1.now) (hsw:IsSw t bs r1.sw) (hk:Row t .calls 0 61 kCall kv r1.calls):IsRun t rb (rSetC r1 i c1):=
 ⟨⟨hb,cv,bs,kv,ps,hr,hH,hps,hX.all hpi ⟨ov,mb,nv,hc,ho,hM,hN⟩,hsw,hk⟩⟩
theorem callR_pl {t:TW} {x:CallS} {c:List Value} {y:Int} (h:kCall.R t x c):kCall.R t (cPl x y) (put c 12 [.int .i64 y]):=by
 obtain ⟨uv,vv,ev,rfl,h1,h2,h3⟩:=h
 exact ⟨uv,vv,ev,rfl,h1,h2,h3⟩
theorem callR_end {t:TW} {x:CallS} {c:List Value} {y:Int} (h:kCall.R t x c):kCall.R t (cFin x y) (put c 13 [.int .i64 y]):=by
 obtain ⟨uv,vv,ev,rfl,h1,h2,h3⟩:=h
 exact ⟨uv,vv,ev,rfl,h1,h2,h3⟩
theorem callR_rep {t:TW} {x:CallS} {c:List Value} {y:Reply} {v2 e2:Value} (h:kCall.R t x c) (hv:Sl t kPres v2 y.values) (he:Sl t kEvent e2 y.events):kCall.R t (cRep x y) (put c 14 [.int .i64 y.err,v2,e2,.bool y.lost]):=by
 obtain ⟨uv,vv,ev,rfl,h1,h2,h3⟩:=h
 exact ⟨uv,v2,e2,rfl,h1,hv,he⟩
theorem set_get {α:Type} {l:List α} {j:Nat} {x y:α} (h:l[j]? = some x):(l.set j y)[j]? = some y:=List.getElem?_set_self (List.getElem?_eq_some_iff.1 h).1
theorem run_client_out {rb:Nat} {r:RunS} (who:Int) (t:TW) (hR:IsRun t rb r) (ho:who < 0 ∨ (r.clients.length:Int) ≤ who):Cal 44 [.pointer (some ⟨rb,0,none⟩),.int .i64 who] t No (fun v t' => v = .bool false ∧ IsRun t' rb r):=by
 obtain ⟨hb,cv,bs,kv,ps,hr,hH,hps,hcls,hsw,hk⟩:=hR.out
 obtain ⟨Ap,cp,ecv,_⟩:=hps.form
 rw [hcls.1] at ecv
 subst ecv
 refine Cal.en Tryz.func44 rfl Tryz.ntmps44<|WC.rs<|WL.a rfl<|WL.go<|WC.seq<|WC.rs<|WL.m rfl<|WL.f (Fr.bo rfl rfl BO.lt)<|WL.m rfl ?_
 refine WL.pin 11 rfl (fun hp11=>?_) (fun hp11=>?_)
 focus
  refine WL.s<|WL.s<|WL.s<|WL.s<|WL.s<|WL.s<|WL.s<|WL.f (Fr.pkT rfl rfl) ?_
 rotate_left
 focus
  refine WL.m rfl<|WL.m rfl<|WL.f (Fr.ncP rfl)<|WL.q 1 rfl fa107_1<|WL.r (Rd.ld rfl sc104 (hr.cell rfl))<|WL.f (Fr.ln rfl Tryz.underlying104)<|WL.f (Fr.bo rfl rfl BO.ge)<|WL.re 18 (v' := .bool true) rfl (congrArg Value.bool (decide_eq_true (ho.resolve_left (dcF hp11))))<|WL.f (Fr.pkF rfl rfl) ?_
 all_goals
  exact WL.go<|WC.condT<|WC.rs<|WL.a rfl<|WL.go<|WC.ret<|WQ.tr<|WQ.ret rfl (.tmp rfl .nil) (⟨rfl,hR⟩)
theorem run_client {rb i:Nat} {r:RunS} {c:ClientS} (t:TW) (hR:IsRun t rb r) (hci:r.clients[i]? = some c) (hi8:i < 8) (hcl:r.calls.length ≤ 900000) (hs8:r.h.strs.length ≤ 8) (hn0:0 ≤ r.h.cfg.stripes) (hn1:r.h.cfg.stripes ≤ 1000) (hol:c.ops.length ≤ 1000) (hops:∀ x ∈ c.ops,x.users.length ≤ 900 ∧ x.user.size ≤ 1000000 ∧ ∀ u ∈ x.users,u.size ≤ 1000000) (hPk:∀ p,(rPre r i c).2.now = some p → POk r.h p) (hCk:(rPre r i c).2.now ≠ none → 0 ≤ (rPre r i c).2.call ∧ (rPre r i c).2.call < ((rPre r i c).1.calls.length:Int)):Cal 44 [.pointer (some ⟨rb,0,none⟩),.int .i64 (i:Int)] t (cT i) (fun v t' => v = .bool (clientStep r (i:Int)).2 ∧ IsRun t' rb (clientStep r (i:Int)).1):=by
 obtain ⟨hb,cv,bs,kv,ps,hr,hH,hps,hcls,hsw,hk⟩:=hR.out
 obtain ⟨Ap,cp,ecv,_⟩:=hps.form
 rw [hcls.1] at ecv
 subst ecv
 have hil:=(List.getElem?_eq_some_iff.1 hci).1
 refine Cal.en Tryz.func44 rfl Tryz.ntmps44<|WC.rs<|WL.a rfl<|WL.go<|WC.seq<|WC.rs<|WL.m rfl<|WL.f (Fr.bo rfl rfl BO.lt)<|WL.re 10 (v' := .bool false) rfl (congrArg Value.bool (decide_eq_false (by omega)))<|WL.m rfl ?_
 refine WL.m rfl<|WL.m rfl<|WL.f (Fr.ncP rfl)<|WL.q 1 rfl fa107_1<|WL.r (Rd.ld rfl sc104 (hr.cell rfl))<|WL.f (Fr.ln rfl Tryz.underlying104)<|WL.f (Fr.bo rfl rfl BO.ge)<|WL.re 18 (v' := .bool false) rfl (congrArg Value.bool (decide_eq_false (by omega)))<|WL.f (Fr.pkF rfl rfl)<|WL.go ?_
 refine WC.condF<|WC.skip<|WQ.n<|WC.rs<|WL.m rfl<|WL.f (Fr.ncP rfl)<|WL.q 1 rfl fa107_1 ?_
 obtain ⟨cb,hpi,⟨ov,mb,nv,hc,ho,hM,hN⟩,hX⟩:=hcls.at_ hci
 obtain ⟨Ao,co,rfl,_⟩:=ho.form
 refine WL.r (Rd.ld rfl sc104 (hr.cell rfl))<|WL.m rfl ?_
 obtain ⟨bq,oq,capq,cq,eq1,hcpq,hRq,hAq,hlbq,hfzq⟩:=hps.at_ hpi
 obtain ⟨hAp,_,_⟩:=Value.slice.inj eq1
 obtain rfl:cq = [.pointer (some ⟨cb,0,none⟩)]:=hRq
 refine WL.f (Fr.ix (congrArg (fun A=>some (Value.slice A r.clients.length cp)) hAp) rfl sl104 (by omega) (by omega) (o' := oq + i * 1) (by simp))<|WL.r (Rd.ld rfl sc108 (hAq.one rfl))<|WL.a rfl<|WL.go ?_
 refine WC.seqJ (σ:=Unit) (fun _ t' => Bk t' rb [.pointer (some ⟨hb,0,none⟩),.slice Ap r.clients.length cp,.pointer (some ⟨bs,0,none⟩),.int .i64 r.sweep,.int .i64 r.n,.int .i64 r.ticks,.int .i64 r.sweeps,kv] 107 (.run) ∧ IsHall t' hb r.h ∧ Sl t' kPtr (.slice Ap r.clients.length cp) ps ∧ IsSw t' bs r.sw ∧ Row t' .calls 0 61 kCall kv r.calls ∧ ClsX t' ps r.clients i ∧ Bk t' cb [.slice Ao c.ops.length co,.int .i64 (c.at_:Int),.pointer (some ⟨mb,0,none⟩),nv,.int .i64 c.call] 113 (.client i) ∧ Sl t' kOp (.slice Ao c.ops.length co) c.ops ∧ IsMine t' i mb c.mine ∧ NowR t' i mb nv c.now ∧ True) (fun _=>[(0,.pointer (some ⟨rb,0,none⟩)),(1,.int .i64 (i:Int)),(4,.bool false),(5,.pointer (some ⟨cb,0,none⟩)),(6,.bool (rBegins c))]) ?_ ?_
 ·refine WC.dr (fun w=>At w cb 1 [.int .i64 (c.at_:Int)] ∧ True) (.then_ .body) (⟨hc.at rfl,trivial⟩) ?_
  obtain ⟨hH,hM,hN,hX,hc,hk,ho,hps,hr,hsw⟩:=Q10 (hH.n (TW.drew_step _)) (hM.n (TW.drew_step _)) (hN.n (TW.drew_step _)) (hX.step (TW.drew_step _) xt0) (hc.n (TW.drew_step _)) (hk.n (TW.drew_step _)) (ho.n (TW.drew_step _)) (hps.n (TW.drew_step _)) (hr.n (TW.drew_step _)) (hsw.step' (TW.drew_step _) st0)
  refine DL.m 0 rfl rfl<|DL.fx 1 rfl (Fr.ncP rfl)<|DL.fx 2 rfl (Fr.q 3 rfl fa113_3)<|DL.rx 3 rfl (Rd.ld rfl sc111 (hc.cell rfl))<|DL.fx 4 rfl (Fr.nowq rfl hN)<|DL.m 5 rfl rfl ?_
  refine DL.pin 32 rfl (fun hp32=>?_) (fun hp32=>?_)
  focus
   refine DL.m 6 rfl rfl<|DL.fx 7 rfl (Fr.ncP rfl)<|DL.fx 8 rfl (Fr.q 1 rfl fa113_1)<|DL.m 10 rfl rfl<|DL.fx 11 rfl (Fr.ncP rfl)<|DL.fx 12 rfl (Fr.q 0 rfl fa113_0)<|DL.hx 9 rfl (fun w hw=>Rd.ld rfl sc3 (hw.1.one rfl))<|DL.rx 13 rfl (Rd.ld rfl sc76 (hc.cell rfl))<|DL.fx 14 rfl (Fr.ln rfl Tryz.underlying76)<|DL.fx 15 rfl (Fr.bo rfl rfl BO.lt) ?_
   refine DL.fx 16 rfl (Fr.pkT rfl rfl)<|DL.fx 17 rfl (Fr.as rfl)<|DL.D ?_
   have eb:rBegins c = decide ((c.at_:Int) < (c.ops.length:Int)):=by unfold rBegins; rw [show c.now.isNone = true from hp32]; rfl
  rotate_left
  focus
   refine DL.sx 6 rfl<|DL.sx 7 rfl<|DL.sx 8 rfl<|DL.sx 9 rfl<|DL.sx 10 rfl<|DL.sx 11 rfl<|DL.sx 12 rfl<|DL.sx 13 rfl<|DL.sx 14 rfl<|DL.sx 15 rfl ?_
   refine DL.fx 16 rfl (Fr.pkF rfl rfl)<|DL.fx 17 rfl (Fr.as rfl)<|DL.D ?_
   have eb:rBegins c = false:=by unfold rBegins; rw [show c.now.isNone = false from hp32]; rfl
  all_goals
   exact WQ.join () ⟨rfl,rfl,rfl,rfl,by rw [eb]; rfl,trivial⟩ ⟨hr,hH,hps,hsw,hk,hX,hc,ho,hM,hN,trivial⟩
 rintro _ t1 ⟨hr,hH,hps,hsw,hk,hX,hc,ho,hM,hN,_⟩
 obtain ⟨r1,hr1⟩:∃ r1,r1 = (rPre r i c).1:=⟨_,rfl⟩
 obtain ⟨c1,hc1⟩:∃ c1,c1 = (rPre r i c).2:=⟨_,rfl⟩
 refine WC.seqJ (σ:=Unit) (fun _ t' => IsHall t' hb r.h ∧ Sl t' kPtr (.slice Ap r.clients.length cp) ps ∧ IsSw t' bs r.sw ∧ ClsX t' ps r.clients i ∧ Sl t' kOp (.slice Ao c.ops.length co) c.ops ∧ IsMine t' i mb c.mine ∧ (∃ kv1 nv1,Bk t' rb (runC r1 hb (.slice Ap r.clients.length cp) bs kv1) 107 .run ∧ Row t' .calls 0 61 kCall kv1 r1.calls ∧ Bk t' cb (clC c1 (.slice Ao c.ops.length co) nv1 mb) 113 (.client i) ∧ NowR t' i mb nv1 c1.now) ∧ True) (fun _=>[(0,.pointer (some ⟨rb,0,none⟩)),(4,.bool false),(5,.pointer (some ⟨cb,0,none⟩)),(6,.bool (rBegins c))]) ?_ ?_
 ·refine WC.rs<|WL.m rfl<|WL.go ?_
  refine WC.condS rfl (fun hcond44=>?_) (fun hcond44=>?_)
  focus
   have hbg:rBegins c = true:=hcond44
   obtain ⟨hnone,hlt⟩:=rBegins_now hbg
   have hop:=List.getElem?_eq_getElem hlt
   have egd:c.ops.getD c.at_ zOpr = c.ops[c.at_]:=getD_at hop
   obtain ⟨hxl,hxu,hxz⟩:=hops _ (List.getElem_mem hlt)
   have hN0:=hN
   rw [hnone] at hN0
   obtain rfl:nv = .nilIface:=hN0
   obtain ⟨bo,oo,capo,co2,eo1,_,⟨uv,rfl,hu⟩,hAo,hlbo,hfzo⟩:=ho.at_ hop
   obtain ⟨hAo1,_,_⟩:=Value.slice.inj eo1
   obtain ⟨Au,cu,rfl,_⟩:=hu.form
   have hAb:AtB t1 bo (oo + c.at_ * 7) (opC c.ops[c.at_] (.slice Au c.ops[c.at_].users.length cu)) .fz:=⟨hAo,hlbo,hfzo⟩
   refine WC.drs (fun w=>At w cb 0 [.slice Ao c.ops.length co] ∧ At w cb 1 [.int .i64 (c.at_:Int)] ∧ At w bo (oo + c.at_ * 7) (opC c.ops[c.at_] (.slice Au c.ops[c.at_].users.length cu))) (.then_ .body) (⟨hc.at rfl,hc.at rfl,hAb.at_⟩) ?_
   obtain ⟨hAb,hH,hM,hX,hc,hk,ho,hps,hr,hsw,hu⟩:=Q11 (hAb.n (TW.drew_step _)) (hH.n (TW.drew_step _)) (hM.n (TW.drew_step _)) (hX.step (TW.drew_step _) xt0) (hc.n (TW.drew_step _)) (hk.n (TW.drew_step _)) (ho.n (TW.drew_step _)) (hps.n (TW.drew_step _)) (hr.n (TW.drew_step _)) (hsw.step' (TW.drew_step _) st0) (hu.n (TW.drew_step _))
   refine DL.m 0 rfl rfl<|DL.fx 1 rfl (Fr.ncP rfl)<|DL.fx 2 rfl (Fr.q 0 rfl fa113_0)<|DL.m 4 rfl rfl<|DL.fx 5 rfl (Fr.ncP rfl)<|DL.fx 6 rfl (Fr.q 1 rfl fa113_1)<|DL.hx 3 rfl (fun w hw=>Rd.ld rfl sc76 (hw.1.one rfl))<|DL.hx 7 rfl (fun w hw=>Rd.ld rfl sc3 (hw.2.1.one rfl))<|DL.fx 8 rfl (Fr.ix (congrArg (fun A=>some (Value.slice A c.ops.length co)) hAo1) rfl sl76 (by omega) (by omega) (o' := oo + c.at_ * 7) (by simp))<|DL.hx 9 rfl (fun w hw=>Rd.la rfl ag56 hw.2.2) ?_
   refine DL.ex 10 rfl (Ef.al (.loc 7) zr56) (fun _ _ ⟨_,_,s,_⟩=>⟨(hc.step (T:=No) s id).at rfl,(hc.step (T:=No) s id).at rfl,(hAb.step (T:=No) s id).at_⟩) ?_
   rintro _ t2 ⟨b7,rfl,s2,hb7,nb7,mb7⟩
   obtain ⟨hAb,hH,hM,hX,hc,hk,ho,hps,hr,hsw,hu⟩:=Q11 (hAb.n s2) (hH.n s2) (hM.n s2) (hX.step s2 xt0) (hc.n s2) (hk.n s2) (ho.n s2) (hps.n s2) (hr.n s2) (hsw.step' s2 st0) (hu.n s2)
   refine DL.e0x 11 rfl (Ef.T [.int .i64 c.ops[c.at_].kind,.string c.ops[c.at_].user,.int .i64 c.ops[c.at_].id,.int .i64 c.ops[c.at_].status,.int .i64 c.ops[c.at_].prio,.int .u64 c.ops[c.at_].ttl,.slice Au c.ops[c.at_].users.length cu] rfl rfl hb7 sz56 (.inl nb7)) (fun _ _ ⟨_,s,_⟩=>⟨hc.a s,hc.a s,(hAb.n s).at_⟩) ?_
   rintro _ t3 ⟨u3,s3,hb7'⟩
   have hb7:Bk t3 b7 [.int .i64 c.ops[c.at_].kind,.string c.ops[c.at_].user,.int .i64 c.ops[c.at_].id,.int .i64 c.ops[c.at_].status,.int .i64 c.ops[c.at_].prio,.int .u64 c.ops[c.at_].ttl,.slice Au c.ops[c.at_].users.length cu] _ _:=hb7'
   clear hb7'
   obtain ⟨hH,hM,hX,hc,hk,ho,hps,hr,hsw,hu⟩:=Q10 (hH.n s3) (hM.n s3) (hX.step s3 (xt1 (.inl rfl) nofun)) (hc.n s3) (hk.n s3) (ho.n s3) (hps.n s3) (hr.n s3) (hsw.step' s3 ⟨nofun,nofun,nofun⟩) (hu.n s3)
   refine DL.D<|WQ.n<|WC.rs<|WL.m rfl<|WL.m rfl<|WL.m rfl<|WL.m rfl<|WL.r (Rd.la rfl ag56 (hb7.at (vs:=[.int .i64 c.ops[c.at_].kind,.string c.ops[c.at_].user,.int .i64 c.ops[c.at_].id,.int .i64 c.ops[c.at_].status,.int .i64 c.ops[c.at_].prio,.int .u64 c.ops[c.at_].ttl,.slice Au c.ops[c.at_].users.length cu]) rfl))<|WL.e (Ef.call rfl en62 (run_proc (i:=i) _ hr hH hc hu hxl hxu hxz hn0 hn1) (cTo)) ?_
   rintro _ t4 ⟨s4,tt0,u0,rfl,hPR⟩
   obtain ⟨hH,hM,hX,hb7,hc,hk,ho,hps,hr,hsw,hu⟩:=Q11 (hH.n s4) (hM.n s4) (hX.step s4 xtO) (hb7.n s4) (hc.n s4) (hk.n s4) (ho.n s4) (hps.n s4) (hr.n s4) (hsw.step' s4 (stO hi8)) (hu.n s4)
   refine WL.f (Fr.ncP rfl)<|WL.q 3 rfl fa113_3<|WL.e0 (Ef.T [.iface tt0 u0] rfl rfl hc sz111 (.inr (.inr (.inr (.inl rfl))))) ?_
   rintro _ t5 ⟨u5,s5,hc'⟩
   have hc:Bk t5 cb [.slice Ao c.ops.length co,.int .i64 (c.at_:Int),.pointer (some ⟨mb,0,none⟩),.iface tt0 u0,.int .i64 c.call] _ _:=hc'
   clear hc'
   obtain ⟨hH,hM,hPR,hX,hb7,hk,ho,hps,hr,hsw,hu⟩:=Q11 (hH.n s5) (hM.n s5) (hPR.n s5) (hX.step s5 (xt1 (.inr rfl) nofun)) (hb7.n s5) (hk.n s5) (ho.n s5) (hps.n s5) (hr.n s5) (hsw.step' s5 ⟨nofun,nofun,nofun⟩) (hu.n s5)
   refine WL.go<|WC.drs (fun w=>At w cb 1 [.int .i64 (c.at_:Int)] ∧ True) (.then_ .body) (⟨hc.at rfl,trivial⟩) ?_
   obtain ⟨hH,hM,hPR,hX,hb7,hc,hk,ho,hps,hr,hsw,hu⟩:=Q12 (hH.n (TW.drew_step _)) (hM.n (TW.drew_step _)) (hPR.n (TW.drew_step _)) (hX.step (TW.drew_step _) xt0) (hb7.n (TW.drew_step _)) (hc.n (TW.drew_step _)) (hk.n (TW.drew_step _)) (ho.n (TW.drew_step _)) (hps.n (TW.drew_step _)) (hr.n (TW.drew_step _)) (hsw.step' (TW.drew_step _) st0) (hu.n (TW.drew_step _))
   refine DL.m 0 rfl rfl<|DL.m 1 rfl rfl<|DL.m 2 rfl rfl<|DL.m 3 rfl rfl<|DL.fx 4 rfl (Fr.ncP rfl)<|DL.fx 5 rfl (Fr.q 1 rfl fa113_1)<|DL.hx 6 rfl (fun w hw=>Rd.ld rfl sc3 (hw.1.one rfl))<|DL.rx 7 rfl (Rd.la rfl ag56 (hb7.at (vs:=[.int .i64 c.ops[c.at_].kind,.string c.ops[c.at_].user,.int .i64 c.ops[c.at_].id,.int .i64 c.ops[c.at_].status,.int .i64 c.ops[c.at_].prio,.int .u64 c.ops[c.at_].ttl,.slice Au c.ops[c.at_].users.length cu]) rfl))<|DL.fx 8 rfl (Fr.bd (vs:=[(0,.int .i64 (i:Int)),(1,.int .i64 (c.at_:Int)),(2,.agg #[.int .i64 c.ops[c.at_].kind,.string c.ops[c.at_].user,.int .i64 c.ops[c.at_].id,.int .i64 c.ops[c.at_].status,.int .i64 c.ops[c.at_].prio,.int .u64 c.ops[c.at_].ttl,.slice Au c.ops[c.at_].users.length cu])]) (cs:=#[.int .i64 (i:Int),.int .i64 (c.at_:Int),.int .i64 c.ops[c.at_].kind,.string c.ops[c.at_].user,.int .i64 c.ops[c.at_].id,.int .i64 c.ops[c.at_].status,.int .i64 c.ops[c.at_].prio,.int .u64 c.ops[c.at_].ttl,.slice Au c.ops[c.at_].users.length cu,.int .i64 0,.int .u64 0,.int .i64 0,.int .i64 0,.int .i64 0,.int .i64 0,.slice none 0 0,.slice none 0 0,.bool false]) rfl (fun w=>by kernel_rfl))<|DL.ex 9 rfl (Ef.call rfl en63 (run_began (c:=(⟨(i:Int),c.at_,c.ops[c.at_],0,0,0,0,0,zReply⟩:CallS)) _ hr hk hu (Sl.nil _ _ _ _) (Sl.nil _ _ _ _) hcl) (cTr)) (fun _ _ ⟨s,_⟩=>⟨(hc.step s (by rintro (h | h) <;> cases h)).at rfl,trivial⟩) ?_
   rintro _ t6 ⟨s6,rfl,kv2,hr,hk⟩
   obtain ⟨hH,hM,hPR,hX,hc,ho,hps,hsw⟩:=Q8 (hH.n s6) (hM.n s6) (hPR.n s6) (hX.step s6 xtRC) (hc.n s6) (ho.n s6) (hps.n s6) (hsw.step' s6 stRC)
   refine DL.fx 10 rfl (Fr.ncP rfl)<|DL.fx 11 rfl (Fr.q 4 rfl fa113_4)<|DL.e0x 12 rfl (Ef.T [.int .i64 (r.calls.length:Int)] rfl rfl hc sz3 (.inr (.inr (.inr (.inl rfl))))) (fun _ _ ⟨_,s,hb⟩=>⟨hb.at rfl,trivial⟩) ?_
   rintro _ t7 ⟨u7,s7,hc'⟩
   have hc:Bk t7 cb [.slice Ao c.ops.length co,.int .i64 (c.at_:Int),.pointer (some ⟨mb,0,none⟩),.iface tt0 u0,.int .i64 (r.calls.length:Int)] _ _:=hc'
   clear hc'
   obtain ⟨hH,hM,hPR,hX,hk,ho,hps,hr,hsw⟩:=Q9 (hH.n s7) (hM.n s7) (hPR.n s7) (hX.step s7 (xt1 (.inr rfl) nofun)) (hk.n s7) (ho.n s7) (hps.n s7) (hr.n s7) (hsw.step' s7 ⟨nofun,nofun,nofun⟩)
   refine DL.D<|WQ.n<|WC.rg<|WL.m rfl<|WL.f (Fr.ncP rfl)<|WL.q 1 rfl fa113_1<|WL.r (Rd.ld rfl sc3 (hc.cell rfl))<|WL.f (Fr.bo rfl rfl (BO.add (by omega) (by omega)))<|WL.f (Fr.ncP rfl)<|WL.q 1 rfl fa113_1 ?_
   refine WL.e0 (Ef.T [.int .i64 ((c.at_:Int) + 1)] rfl rfl hc sz3 (.inr (.inr (.inr (.inl rfl))))) ?_
   rintro _ t8 ⟨u8,s8,hc'⟩
   have hc:Bk t8 cb [.slice Ao c.ops.length co,.int .i64 ((c.at_:Int) + 1),.pointer (some ⟨mb,0,none⟩),.iface tt0 u0,.int .i64 (r.calls.length:Int)] _ _:=hc'
   clear hc'
   obtain ⟨hH,hM,hPR,hX,hk,ho,hps,hr,hsw⟩:=Q9 (hH.n s8) (hM.n s8) (hPR.n s8) (hX.step s8 (xt1 (.inr rfl) nofun)) (hk.n s8) (ho.n s8) (hps.n s8) (hr.n s8) (hsw.step' s8 ⟨nofun,nofun,nofun⟩)
   refine WL.nil ?_
   have hI:(∃ kv1 nv1,Bk t8 rb (runC r1 hb (.slice Ap r.clients.length cp) bs kv1) 107 .run ∧ Row t8 .calls 0 61 kCall kv1 r1.calls ∧ Bk t8 cb (clC c1 (.slice Ao c.ops.length co) nv1 mb) 113 (.client i) ∧ NowR t8 i mb nv1 c1.now):=by rw [hr1,hc1]; unfold rPre; rw [if_pos hbg,egd]; exact ⟨kv2,.iface tt0 u0,hr,hk,hc,tt0,u0,rfl,hPR⟩
  rotate_left
  focus
   have hbg:¬ rBegins c = true:=by rw [show rBegins c = false from hcond44]; decide
   refine WC.skip ?_
   have hI:(∃ kv1 nv1,Bk t1 rb (runC r1 hb (.slice Ap r.clients.length cp) bs kv1) 107 .run ∧ Row t1 .calls 0 61 kCall kv1 r1.calls ∧ Bk t1 cb (clC c1 (.slice Ao c.ops.length co) nv1 mb) 113 (.client i) ∧ NowR t1 i mb nv1 c1.now):=by rw [hr1,hc1]; unfold rPre; rw [if_neg hbg]; exact ⟨kv,nv,hr,hk,hc,hN⟩
  all_goals
   exact WQ.join () ⟨rfl,rfl,rfl,rfl,trivial⟩ ⟨hH,hps,hsw,hX,ho,hM,hI,trivial⟩
 rintro _ t9 ⟨hH,hps,hsw,hX,ho,hM,hI,_⟩
 obtain ⟨kv1,nv1,hr,hk,hc,hN⟩:=hI
 refine WC.seq<|WC.drs (fun w=>At w cb 3 [nv1] ∧ True) (.then_ .body) (⟨hc.at rfl,trivial⟩) ?_
 obtain ⟨hH,hM,hN,hX,hc,hk,ho,hps,hr,hsw⟩:=Q10 (hH.n (TW.drew_step _)) (hM.n (TW.drew_step _)) (hN.n (TW.drew_step _)) (hX.step (TW.drew_step _) xt0) (hc.n (TW.drew_step _)) (hk.n (TW.drew_step _)) (ho.n (TW.drew_step _)) (hps.n (TW.drew_step _)) (hr.n (TW.drew_step _)) (hsw.step' (TW.drew_step _) st0)
 refine DL.m 0 rfl rfl<|DL.fx 1 rfl (Fr.ncP rfl)<|DL.fx 2 rfl (Fr.q 3 rfl fa113_3)<|DL.rx 3 rfl (Rd.ld rfl sc111 (hc.cell rfl))<|DL.fx 4 rfl (Fr.nowq rfl hN)<|DL.m 5 rfl rfl ?_
 refine DL.pin 87 rfl (fun hp87=>?_) (fun hp87=>?_)
 ·have hnn:c1.now = none:=by simpa using hp87
  refine DL.sx 6 rfl<|DL.sx 7 rfl<|DL.sx 8 rfl<|DL.sx 9 rfl<|DL.sx 10 rfl<|DL.sx 11 rfl<|DL.sx 12 rfl<|DL.sx 13 rfl<|DL.sx 14 rfl<|DL.sx 15 rfl ?_
  refine DL.sx 16 rfl<|DL.sx 17 rfl<|DL.fx 18 rfl (Fr.pkT rfl rfl)<|DL.D<|WQ.n<|WC.condT<|WC.rs<|WL.m rfl<|WL.a rfl<|WL.go ?_
  refine WC.ret<|WQ.tr ?_
  exact WQ.ret rfl (.tmp rfl .nil) (by have el:=clientStep_none hci (by rw [← hc1]; exact hnn); rw [el,← hr1,← hc1]; refine ⟨rfl,?_⟩; obtain ⟨e1,e2,e3,e4,e5,e6⟩:=rPre_h r i c; rw [← hr1] at e1 e2 e3 e4; rw [← hc1] at e5 e6; exact IsRun.set_ hr (by rw [e1]; exact hH) hps (by rw [e3]; exact hX) hpi hc (by rw [e6]; exact ho) (by rw [e5]; exact hM) hN (by rw [e4]; exact hsw) hk)
 obtain ⟨p,tt,u,hnow,rfl,hPR⟩:=hN.some_ hp87
 have hpk:=hPk p (by rw [← hc1]; exact hnow)
 have hck:=hCk (by rw [← hc1,hnow]; nofun)
 rw [← hc1,← hr1] at hck
 obtain ⟨j,hj⟩:=Int.eq_ofNat_of_zero_le hck.1
 refine DL.m 6 rfl rfl<|DL.fx 7 rfl (Fr.ncP rfl)<|DL.fx 8 rfl (Fr.q 3 rfl fa113_3)<|DL.m 10 rfl rfl<|DL.fx 11 rfl (Fr.ncP rfl)<|DL.fx 12 rfl (Fr.q 0 rfl fa107_0)<|DL.hx 9 rfl (fun w hw=>Rd.ld rfl sc111 (hw.1.one rfl))<|DL.fx 14 rfl (Fr.ncI rfl)<|DL.m 15 rfl rfl<|DL.rx 13 rfl (Rd.ld rfl sc103 (hr.cell rfl)) ?_
 refine DL.ex 16 rfl (Ef.callM rfl rfl (proc_Enabled hPR hH hs8 hpk) (fun _ h=>h.elim)) (fun _ _ ⟨s,_⟩=>⟨hc.a s,trivial⟩) ?_
 rintro _ t10 ⟨s10,rfl⟩
 obtain ⟨hH,hM,hPR,hX,hc,hk,ho,hps,hr,hsw⟩:=Q10 (hH.n s10) (hM.n s10) (hPR.n s10) (hX.step s10 xt0) (hc.n s10) (hk.n s10) (ho.n s10) (hps.n s10) (hr.n s10) (hsw.step' s10 st0)
 refine DL.fx 17 rfl (Fr.un_not rfl)<|DL.fx 18 rfl (Fr.pkF rfl rfl)<|DL.D<|WQ.n ?_
 refine WC.condS rfl (fun hcond100=>?_) (fun hcond100=>?_)
 ·refine WC.rs<|WL.m rfl<|WL.a rfl<|WL.go<|WC.ret<|WQ.tr ?_
  exact WQ.ret rfl (.tmp rfl .nil) (by have el:=clientStep_off hci (by rw [← hc1]; exact hnow) (by simpa using hcond100); rw [el,← hr1,← hc1]; refine ⟨rfl,?_⟩; obtain ⟨e1,e2,e3,e4,e5,e6⟩:=rPre_h r i c; rw [← hr1] at e1 e2 e3 e4; rw [← hc1] at e5 e6; exact IsRun.set_ hr (by rw [e1]; exact hH) hps (by rw [e3]; exact hX) hpi hc (by rw [e6]; exact ho) (by rw [e5]; exact hM) (by rw [hnow]; exact ⟨tt,u,rfl,hPR⟩) (by rw [e4]; exact hsw) hk)
 refine WC.skip<|WQ.n<|WC.drs (fun w=>At w cb 3 [.iface tt u] ∧ At w rb 0 [.pointer (some ⟨hb,0,none⟩)] ∧ True) .body (⟨hc.at rfl,hr.at rfl,trivial⟩) ?_
 obtain ⟨hH,hM,hPR,hX,hc,hk,ho,hps,hr,hsw⟩:=Q10 (hH.n (TW.drew_step _)) (hM.n (TW.drew_step _)) (hPR.n (TW.drew_step _)) (hX.step (TW.drew_step _) xt0) (hc.n (TW.drew_step _)) (hk.n (TW.drew_step _)) (ho.n (TW.drew_step _)) (hps.n (TW.drew_step _)) (hr.n (TW.drew_step _)) (hsw.step' (TW.drew_step _) st0)
 refine DL.m 0 rfl rfl<|DL.fx 1 rfl (Fr.ncP rfl)<|DL.fx 2 rfl (Fr.q 3 rfl fa113_3)<|DL.m 4 rfl rfl<|DL.fx 5 rfl (Fr.ncP rfl)<|DL.fx 6 rfl (Fr.q 0 rfl fa107_0)<|DL.m 8 rfl rfl<|DL.fx 9 rfl (Fr.ncP rfl)<|DL.fx 10 rfl (Fr.q 4 rfl fa107_4)<|DL.hx 3 rfl (fun w hw=>Rd.ld rfl sc111 (hw.1.one rfl)) ?_
 refine DL.fx 12 rfl (Fr.ncI rfl)<|DL.m 13 rfl rfl<|DL.hx 7 rfl (fun w hw=>Rd.ld rfl sc103 (hw.2.1.one rfl))<|DL.rx 11 rfl (Rd.ld rfl sc3 (hr.cell rfl))<|DL.ex 14 rfl (Ef.callM rfl rfl (proc_Step r1.n hPR hH hM hs8 hpk) cTp) (fun _ _ ⟨s,_⟩=>⟨(hc.step s (by rintro (h | h | h | ⟨_,h | ⟨_,h | h⟩⟩ | h | h | h | h | h) <;> cases h)).at rfl,(hr.step s (by rintro (h | h | h | ⟨_,h | ⟨_,h | h⟩⟩ | h | h | h | h | h) <;> cases h)).at rfl,trivial⟩) ?_
 rintro _ t11 ⟨s11,hH,hM,hPR⟩
 have hr:=hr.step s11 (by rintro (h | h | h | ⟨_,h | ⟨_,h | h⟩⟩ | h | h | h | h | h) <;> cases h)
 have hps:=hps.step s11 (by rintro (h | h | h | ⟨_,h | ⟨_,h | h⟩⟩ | h | h | h | h | h) <;> cases h)
 have hsw:=hsw.step' s11 (stP hi8)
 have hk:=hk.step s11 (by rintro (h | h | h | ⟨_,h | ⟨_,h | h⟩⟩ | h | h | h | h | h) <;> cases h) (by rintro (h | h | h | ⟨_,h | ⟨_,h | h⟩⟩ | h | h | h | h | h) <;> cases h)
 have hX:=hX.step s11 xtP
 have hc:=hc.step s11 (by rintro (h | h | h | ⟨_,h | ⟨_,h | h⟩⟩ | h | h | h | h | h) <;> cases h)
 have ho:=ho.step s11 (by rintro (h | h | h | ⟨_,h | ⟨_,h | h⟩⟩ | h | h | h | h | h) <;> cases h)
 obtain ⟨q,hq⟩:∃ q,q = pStep r.h c.mine r1.n p:=⟨_,rfl⟩
 rw [← hq] at hH hM hPR
 refine DL.D<|WQ.n<|WC.drs (fun w=>At w rb 7 [kv1] ∧ True) .body (⟨hr.at rfl,trivial⟩) ?_
 obtain ⟨hH,hM,hPR,hX,hc,hk,ho,hps,hr,hsw⟩:=Q10 (hH.n (TW.drew_step _)) (hM.n (TW.drew_step _)) (hPR.n (TW.drew_step _)) (hX.step (TW.drew_step _) xt0) (hc.n (TW.drew_step _)) (hk.n (TW.drew_step _)) (ho.n (TW.drew_step _)) (hps.n (TW.drew_step _)) (hr.n (TW.drew_step _)) (hsw.step' (TW.drew_step _) st0)
 refine DL.m 0 rfl rfl<|DL.fx 1 rfl (Fr.ncP rfl)<|DL.fx 2 rfl (Fr.q 7 rfl fa107_7)<|DL.m 4 rfl rfl<|DL.fx 5 rfl (Fr.ncP rfl)<|DL.fx 6 rfl (Fr.q 4 rfl fa113_4)<|DL.hx 3 rfl (fun w hw=>Rd.ld rfl sc35 (hw.1.one rfl))<|DL.rx 7 rfl (Rd.ld rfl sc3 (hc.cell rfl)) ?_
 have hjl:j < r1.calls.length:=by omega
 have hjc:=List.getElem?_eq_getElem hjl
 obtain ⟨bk,ck1,csk,hkv,_⟩:=hk.block (by intro e; rw [e] at hjl; exact absurd hjl (Nat.not_lt_zero _))
 refine DL.fx 8 rfl (Fr.ix (congrArg some hkv) rfl sl35 (by omega) (by omega) (o' := j * 18) (by rw [hj]; simp))<|DL.fx 9 rfl (Fr.as rfl)<|DL.D<|WQ.n<|WC.rs<|WL.m rfl<|WL.m rfl<|WL.f (Fr.ncP rfl)<|WL.q 3 rfl fa113_3<|WL.r (Rd.ld rfl sc111 (hc.cell rfl)) ?_
 refine WL.e (Ef.callM rfl rfl (proc_Placed hPR) (fun _ h=>h.elim)) ?_
 rintro _ t12 ⟨s12,rfl⟩
 obtain ⟨hH,hM,hPR,hX,hc,hk,ho,hps,hr,hsw⟩:=Q10 (hH.n s12) (hM.n s12) (hPR.n s12) (hX.step s12 xt0) (hc.n s12) (hk.n s12) (ho.n s12) (hps.n s12) (hr.n s12) (hsw.step' s12 st0)
 refine WL.f (Fr.ncP rfl)<|WL.f (Fr.fa rfl fa61_6) ?_
 have hk0:=hk
 rw [hkv] at hk0
 refine WL.e0 (Ef.stG (dk:=kCall) (i:=j) (j:=12) (x0:=r1.calls[j]) (z:=cPl r1.calls[j] (pPlaced q.2.2)) rfl rfl hk0 rfl (by simp [kCall]) hjc rfl (by simp [Value.oneCell']) (fun t' c st h=>callR_pl h) sz3 rfl nofun (.inr (.inr (.inl rfl)))) ?_
 rintro _ t13 ⟨s13,hk⟩
 obtain ⟨hH,hM,hPR,hX,hc,ho,hps,hr,hsw⟩:=Q9 (hH.n s13) (hM.n s13) (hPR.n s13) (hX.step s13 (xt1 (.inl rfl) nofun)) (hc.n s13) (ho.n s13) (hps.n s13) (hr.n s13) (hsw.step' s13 ⟨nofun,nofun,nofun⟩)
 refine WL.go<|WC.seq<|WC.rs<|WL.m rfl<|WL.f (Fr.ncP rfl)<|WL.q 3 rfl fa113_3<|WL.r (Rd.ld rfl sc111 (hc.cell rfl))<|WL.e (Ef.callM rfl rfl (proc_Done hPR) (fun _ h=>h.elim)) ?_
 rintro _ t14 ⟨s14,rfl⟩
 obtain ⟨hH,hM,hPR,hX,hc,hk,ho,hps,hr,hsw⟩:=Q10 (hH.n s14) (hM.n s14) (hPR.n s14) (hX.step s14 xt0) (hc.n s14) (hk.n s14) (ho.n s14) (hps.n s14) (hr.n s14) (hsw.step' s14 st0)
 refine WL.go ?_
 refine WC.condS rfl (fun hcond138=>?_) (fun hcond138=>?_)
 ·refine WC.drs (fun w=>At w rb 4 [.int .i64 r1.n] ∧ True) (.then_ .body) (⟨hr.at rfl,trivial⟩) ?_
  obtain ⟨hH,hM,hPR,hX,hc,hk,ho,hps,hr,hsw⟩:=Q10 (hH.n (TW.drew_step _)) (hM.n (TW.drew_step _)) (hPR.n (TW.drew_step _)) (hX.step (TW.drew_step _) xt0) (hc.n (TW.drew_step _)) (hk.n (TW.drew_step _)) (ho.n (TW.drew_step _)) (hps.n (TW.drew_step _)) (hr.n (TW.drew_step _)) (hsw.step' (TW.drew_step _) st0)
  refine DL.m 0 rfl rfl<|DL.m 1 rfl rfl<|DL.m 2 rfl rfl<|DL.fx 3 rfl (Fr.ncP rfl)<|DL.fx 4 rfl (Fr.q 4 rfl fa107_4)<|DL.m 6 rfl rfl<|DL.fx 7 rfl (Fr.ncP rfl)<|DL.fx 8 rfl (Fr.q 3 rfl fa113_3)<|DL.hx 5 rfl (fun w hw=>Rd.ld rfl sc3 (hw.1.one rfl))<|DL.rx 9 rfl (Rd.ld rfl sc111 (hc.cell rfl)) ?_
  refine DL.ex 10 rfl (Ef.callM rfl rfl (proc_Reply hPR) (fun _ h=>h.elim)) (fun _ _ ⟨s,_⟩=>⟨hr.a s,trivial⟩) ?_
  rintro _ t15 ⟨s15,vv3,ev3,rfl,hvv,hev⟩
  obtain ⟨hH,hM,hX,hc,hk,ho,hps,hr,hsw⟩:=Q9 (hH.n s15) (hM.n s15) (hX.step s15 xt0) (hc.n s15) (hk.n s15) (ho.n s15) (hps.n s15) (hr.n s15) (hsw.step' s15 st0)
  refine DL.fx 11 rfl (Fr.ncP rfl)<|DL.fx 12 rfl (Fr.fa rfl fa61_7)<|DL.e0x 13 rfl (Ef.stG (dk:=kCall) (i:=j) (j:=13) (x0:=cPl r1.calls[j] (pPlaced q.2.2)) (z:=cFin (cPl r1.calls[j] (pPlaced q.2.2)) r1.n) rfl rfl hk rfl (by simp [kCall]) (set_get hjc) rfl (by simp [Value.oneCell']) (fun t' c st h=>callR_end h) sz3 rfl nofun (.inr (.inr (.inl rfl)))) (fun _ _ ⟨s,_⟩=>⟨hr.a s,trivial⟩) ?_
  rintro _ t16 ⟨s16,hk⟩
  obtain ⟨hH,hM,hX,hc,hev,ho,hps,hr,hsw,hvv⟩:=Q10 (hH.n s16) (hM.n s16) (hX.step s16 (xt1 (.inl rfl) nofun)) (hc.n s16) (hev.n s16) (ho.n s16) (hps.n s16) (hr.n s16) (hsw.step' s16 ⟨nofun,nofun,nofun⟩) (hvv.n s16)
  refine DL.fx 14 rfl (Fr.ncP rfl)<|DL.fx 15 rfl (Fr.fa rfl fa61_8)<|DL.e0x 16 rfl (Ef.stG (dk:=kCall) (i:=j) (j:=14) (x0:=cFin (cPl r1.calls[j] (pPlaced q.2.2)) r1.n) (z:=cRep (cFin (cPl r1.calls[j] (pPlaced q.2.2)) r1.n) (pReply q.2.2)) rfl rfl hk rfl (by simp [kCall]) (set_get (set_get hjc)) rfl (by have hv1:=hvv.cell; have he1:=hev.cell; simp [Value.oneCell'] at hv1 he1 ⊢; exact ⟨hv1,he1⟩) (fun t' c st h=>callR_rep h (hvv.step st nofun) (hev.step st nofun)) sz59 rfl nofun (.inr (.inr (.inl rfl)))) (fun _ _ ⟨s,_⟩=>⟨hr.a s,trivial⟩) ?_
  rintro _ t17 ⟨s17,hk⟩
  obtain ⟨hH,hM,hX,hc,ho,hps,hr,hsw⟩:=Q8 (hH.n s17) (hM.n s17) (hX.step s17 (xt1 (.inl rfl) nofun)) (hc.n s17) (ho.n s17) (hps.n s17) (hr.n s17) (hsw.step' s17 ⟨nofun,nofun,nofun⟩)
  refine DL.D<|WQ.n<|WC.rg<|WL.m rfl<|WL.f (Fr.ncP rfl)<|WL.q 3 rfl fa113_3<|WL.e0 (Ef.T [.nilIface] rfl rfl hc sz111 (.inr (.inr (.inr (.inl rfl))))) ?_
  rintro _ t18 ⟨u18,s18,hc'⟩
  have hc:Bk t18 cb [.slice Ao c.ops.length co,.int .i64 (c1.at_:Int),.pointer (some ⟨mb,0,none⟩),.nilIface,.int .i64 c1.call] _ _:=hc'
  clear hc'
  obtain ⟨hH,hM,hX,hk,ho,hps,hr,hsw⟩:=Q8 (hH.n s18) (hM.n s18) (hX.step s18 (xt1 (.inr rfl) nofun)) (hk.n s18) (ho.n s18) (hps.n s18) (hr.n s18) (hsw.step' s18 ⟨nofun,nofun,nofun⟩)
  refine WL.nil<|WQ.n<|WC.rs<|WL.a rfl<|WL.go<|WC.ret ?_
  exact WQ.ret rfl (.tmp rfl .nil) (by
        have el:=clientStep_mv hci (by rw [← hc1]; exact hnow) (by simpa using hcond100)
        rw [el,← hr1,← hc1]
        refine ⟨rfl,?_⟩
        obtain ⟨e1,e2,e3,e4,e5,e6⟩:=rPre_h r i c
        rw [← hr1] at e1 e2 e3 e4
        rw [← hc1] at e5 e6
        have eq:q = pStep r1.h c1.mine r1.n p:=by { rw [e1,e5]; exact hq }
        unfold rMove
        simp only [← eq]
        refine IsRun.set_ (r1:={ r1 with h:=q.1,calls:=r1.calls.modify c1.call.toNat fun x=>callAt x r1.n q.2.2 }) (c1:={ c1 with mine:=q.2.1,now:=if pDone q.2.2 = true then none else some q.2.2 }) hr hH hps (by show ClsX _ ps r1.clients i; rw [e3]; exact hX) hpi hc (by show Sl _ kOp _ c1.ops; rw [e6]; exact ho) hM ?_ (by show IsSw _ bs r1.sw; rw [e4]; exact hsw) ?_
        ·rw [if_pos hcond138]
         rfl
        show Row _ .calls 0 61 kCall _ (r1.calls.modify c1.call.toNat fun x=>callAt x r1.n q.2.2)
        rw [show c1.call.toNat = j by omega,modify_set _ hjc]
        unfold callAt
        rw [if_pos hcond138,hkv]
        rw [List.set_set,List.set_set] at hk
        exact hk)
 refine WC.skip<|WQ.n<|WC.rs<|WL.a rfl<|WL.go<|WC.ret ?_
 exact WQ.ret rfl (.tmp rfl .nil) (by
       have el:=clientStep_mv hci (by rw [← hc1]; exact hnow) (by simpa using hcond100)
       rw [el,← hr1,← hc1]
       refine ⟨rfl,?_⟩
       obtain ⟨e1,e2,e3,e4,e5,e6⟩:=rPre_h r i c
       rw [← hr1] at e1 e2 e3 e4
       rw [← hc1] at e5 e6
       have eq:q = pStep r1.h c1.mine r1.n p:=by { rw [e1,e5]; exact hq }
       unfold rMove
       simp only [← eq]
       refine IsRun.set_ (r1:={ r1 with h:=q.1,calls:=r1.calls.modify c1.call.toNat fun x=>callAt x r1.n q.2.2 }) (c1:={ c1 with mine:=q.2.1,now:=if pDone q.2.2 = true then none else some q.2.2 }) hr hH hps (by show ClsX _ ps r1.clients i; rw [e3]; exact hX) hpi hc (by show Sl _ kOp _ c1.ops; rw [e6]; exact ho) hM ?_ (by show IsSw _ bs r1.sw; rw [e4]; exact hsw) ?_
       ·rw [if_neg (fun h=>Bool.noConfusion (hcond138.symm.trans h))]
        exact ⟨tt,u,rfl,hPR⟩
       show Row _ .calls 0 61 kCall _ (r1.calls.modify c1.call.toNat fun x=>callAt x r1.n q.2.2)
       rw [show c1.call.toNat = j by omega,modify_set _ hjc]
       unfold callAt
       rw [if_neg (fun h=>Bool.noConfusion (hcond138.symm.trans h)),hkv]
       exact hk)
end Go.Proofs.YthilcgjhhhmgoaaGreat.X
