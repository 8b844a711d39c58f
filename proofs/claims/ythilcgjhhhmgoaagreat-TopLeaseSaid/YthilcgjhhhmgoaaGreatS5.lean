/- One part of the proof: FRun5, FRun6, FRun7, PInv3, PInv4, PInv5, FRun8, FRun9, FRun10, FRef1, FRef2, PAwake, FAwake, FLaw4, PInv6, RowBase, FLease1. No condition beyond those that each theorem names. -/
import Derived.Test.YthilcgjhhhmgoaaGreatS4
import Derived.KernelRfl
import Derived.Test.YthilcgjhhhmgoaaGreatRows
import Derived.Test.YthilcgjhhhmgoaaGreatChecked
import Derived.WalkKit
import Derived.ProofKit
import Derived.OpenShut
import Derived.ShutString
import Derived.ChangeOld
import Derived.Below
import Derived.SizedLaws
set_option linter.unusedVariables false
set_option linter.unusedSimpArgs false
set_option linter.unusedSectionVars false
set_option maxHeartbeats 1000000
namespace Go.Proofs.YthilcgjhhhmgoaaGreat.X
theorem Fr.nown {n:Sz} {E:Env} {d:Option Nat} {ty t' : TypeId} {pos:String} {af:Array Edge} {g:Option (Nat × Bool)} {x:Operand} {nv:Value} {t:TW} {i mb:Nat} {o:Option ProcS} (h:ev E x = some nv) (hN:NowR t i mb nv o):Fr n ⟨d,.binOp .neq 111 x (.const .nilIface) t', ty,pos,af,g⟩ E (.bool !o.isNone):=by
 cases o with
 | none=>
  obtain rfl:nv = .nilIface:=hN
  refine Fr.bo' h rfl fun w=>?_
  have hg:eqGuard .neq 111 x (.const .nilIface) .nilIface .nilIface = pure ():=by cases x <;> rfl
  rw [hg,pure_bind]
  show (do pure (Value.bool (!(← Op.equal 111 .nilIface .nilIface))):Sem Value).run P w = _
  rw [Sem.run_bind,run_eqI Tryz.underlying111]
  rfl
 | some p=>
  obtain ⟨tt,u,rfl,_⟩:=hN
  refine Fr.bo' h rfl fun w=>?_
  have hg:eqGuard .neq 111 x (.const .nilIface) (.iface tt u) .nilIface = pure ():=rfl
  rw [hg,pure_bind]
  show (do pure (Value.bool (!(← Op.equal 111 (.iface tt u) .nilIface))):Sem Value).run P w = _
  rw [Sem.run_bind,run_eqI' Tryz.underlying111]
  rfl
abbrev polF (r:RunS):ClientS → Bool:=fun c=>match c.now with
 | none=>true
 | some p=>!decide (pWaits p = (r.sw.stripe:Int))
theorem run_polite {rb:Nat} {r:RunS} (t:TW) (hR:IsRun t rb r) (hlc:r.clients.length ≤ 1000) (hpn:∀ c ∈ r.clients,∀ p,c.now = some p → POk r.h p):Cal 65 [.pointer (some ⟨rb,0,none⟩)] t No (fun v t' => v = .bool (rPolite r)):=by
 obtain ⟨hb,cv,bs,kv,ps,hr,hH,hps,hcls,hsw,hk⟩:=hR.out
 obtain ⟨Ap,cp,ecv,_⟩:=hps.form
 rw [hcls.1] at ecv
 subst ecv
 refine Cal.en Tryz.func65 rfl Tryz.ntmps65<|WC.rs<|WL.a rfl<|WL.go<|WC.seq<|WC.rs<|WL.m rfl<|WL.f (Fr.ncP rfl)<|WL.q 1 rfl fa107_1<|WL.r (Rd.ld rfl sc104 (hr.cell rfl)) ?_
 refine WL.f (Fr.ln rfl Tryz.underlying104)<|WL.m rfl<|WL.go<|WC.block<|WC.loop (σ:=Nat) (fun k t' => Bk t' rb [.pointer (some ⟨hb,0,none⟩),.slice Ap r.clients.length cp,.pointer (some ⟨bs,0,none⟩),.int .i64 r.sweep,.int .i64 r.n,.int .i64 r.ticks,.int .i64 r.sweeps,kv] 107 (.run) ∧ Sl t' kPtr (.slice Ap r.clients.length cp) ps ∧ Cls t' ps r.clients ∧ IsSw t' bs r.sw ∧ k ≤ r.clients.length ∧ (r.clients.take k).all (polF r) = true ∧ True) (fun k=>[(0,.pointer (some ⟨rb,0,none⟩)),(8,.slice Ap r.clients.length cp),(9,.int .i64 (r.clients.length:Int)),(10,.int .i64 (k:Int))]) (fun k=>r.clients.length - k) 0 ⟨rfl,rfl,rfl,rfl,trivial⟩ ⟨hr,hps,hcls,hsw,Nat.zero_le _,rfl,trivial⟩ ?_
 rintro k t1 ⟨hr,hps,hcls,hsw,hk,hal,_⟩
 refine WC.rs<|WL.f (Fr.bo rfl rfl BO.lt)<|WL.go<|WC.seq ?_
 refine WC.condS rfl (fun hcond11=>?_) (fun hcond11=>?_)
 ·have hlt:k < r.clients.length:=by have:=dcT hcond11; omega
  refine WC.skip<|WQ.n<|WC.seq<|WC.block<|WC.rs ?_
  have hci:=List.getElem?_eq_getElem hlt
  obtain ⟨cb,hpi,⟨ov,mb,nv,hc,ho,hM,hN⟩,_⟩:=hcls.at_ hci
  obtain ⟨bq,oq,capq,cq,eq1,hcpq,hRq,hAq,hlbq,hfzq⟩:=hps.at_ hpi
  obtain ⟨hAp,_,_⟩:=Value.slice.inj eq1
  obtain rfl:cq = [.pointer (some ⟨cb,0,none⟩)]:=hRq
  refine WL.f (Fr.ix (congrArg (fun A=>some (Value.slice A r.clients.length cp)) hAp) rfl sl104 (by omega) (by omega) (o' := oq + k * 1) (by simp))<|WL.r (Rd.ld rfl sc108 (hAq.one rfl))<|WL.a rfl<|WL.go<|WC.drs (fun w=>At w cb 3 [nv] ∧ At w rb 2 [.pointer (some ⟨bs,0,none⟩)] ∧ True) (.blk (.then_ (.then_ (.blk (.then_ .body))))) (⟨hc.at rfl,hr.at rfl,trivial⟩) ?_
  obtain ⟨hps,hr⟩:=Q2 (hps.n (TW.drew_step _)) (hr.n (TW.drew_step _))
  have hcls:=hcls.step (TW.drew_step _) (fun _ _ _ h=>h)
  obtain ⟨hN,hc,hsw⟩:=Q3 (hN.n (TW.drew_step _)) (hc.n (TW.drew_step _)) (hsw.step' (TW.drew_step _) st0)
  refine DL.m 0 rfl rfl<|DL.fx 1 rfl (Fr.ncP rfl)<|DL.fx 2 rfl (Fr.q 3 rfl fa113_3)<|DL.rx 3 rfl (Rd.ld rfl sc111 (hc.cell rfl))<|DL.fx 4 rfl (Fr.nown rfl hN)<|DL.m 5 rfl rfl ?_
  refine DL.pin 19 rfl (fun hp19=>?_) (fun hp19=>?_)
  ·obtain ⟨p,tt,u,hnow,rfl,hPR⟩:=hN.some_ (by simpa using hp19)
   have hpk:=hpn _ (List.getElem_mem hlt) p hnow
   refine DL.m 6 rfl rfl<|DL.fx 7 rfl (Fr.ncP rfl)<|DL.fx 8 rfl (Fr.q 3 rfl fa113_3)<|DL.m 11 rfl rfl<|DL.fx 12 rfl (Fr.ncP rfl)<|DL.fx 13 rfl (Fr.q 2 rfl fa107_2)<|DL.hx 9 rfl (fun w hw=>Rd.ld rfl sc111 (hw.1.one rfl))<|DL.hx 14 rfl (fun w hw=>Rd.ld rfl sc105 (hw.2.1.one rfl))<|DL.ex 10 rfl (Ef.callM rfl rfl (proc_Waits hPR hpk) (fun _ h=>h.elim)) (fun _ _ ⟨s,_⟩=>⟨hc.a s,hr.a s,trivial⟩) ?_
   rintro _ t2 ⟨s2,rfl⟩
   obtain ⟨hps,hr⟩:=Q2 (hps.n s2) (hr.n s2)
   have hcls:=hcls.step s2 (fun _ _ _ h=>h)
   obtain ⟨hc,hsw⟩:=Q2 (hc.n s2) (hsw.step' s2 st0)
   refine DL.ex 15 rfl (Ef.call rfl en66 (sweep_Stripe _ hsw) (fun _ h=>h.elim)) (fun _ _ ⟨s,_⟩=>⟨hc.a s,hr.a s,trivial⟩) ?_
   rintro _ t3 ⟨s3,rfl⟩
   obtain ⟨hps,hr⟩:=Q2 (hps.n s3) (hr.n s3)
   have hcls:=hcls.step s3 (fun _ _ _ h=>h)
   have hsw:=hsw.step' s3 st0
   refine DL.fx 16 rfl (Fr.bo rfl rfl BO.eq)<|DL.fx 17 rfl (Fr.pkT rfl rfl)<|DL.D<|WQ.n ?_
   refine WC.condS rfl (fun hcond31=>?_) (fun hcond31=>?_)
   ·have hpf:polF r r.clients[k] = false:=by unfold polF; rw [hnow]; simp only; rw [show decide (pWaits p = (r.sw.stripe:Int)) = true from hcond31]; rfl
    exact WC.rs<|WL.a rfl<|WL.go<|WC.ret<|WQ.br<|WQ.tr<|WQ.tr<|WQ.br<|WQ.tr<|WQ.ret rfl (.tmp rfl .nil) (by rw [show rPolite r = false from List.all_eq_false.2 ⟨_,List.getElem_mem hlt,fun h=>Bool.noConfusion (hpf.symm.trans h)⟩]; rfl)
   have hpf:polF r r.clients[k] = true:=by unfold polF; rw [hnow]; simp only; rw [show decide (pWaits p = (r.sw.stripe:Int)) = false from hcond31]; rfl
   exact WC.skip<|WQ.bn<|WQ.n<|WC.rg<|WL.f (Fr.bo rfl rfl (BO.add (by omega) (by omega)))<|WL.m rfl<|WL.nil<|WQ.again (k + 1) ⟨rfl,rfl,rfl,rfl,trivial⟩ ⟨hr,hps,hcls,hsw,hlt,by rw [List.take_succ_eq_append_getElem hlt,List.all_append,hal]; simpa using hpf,trivial⟩ (by omega)
  have hpf:polF r r.clients[k] = true:=by unfold polF; rw [show r.clients[k].now = none by simpa using hp19]
  refine DL.sx 6 rfl<|DL.sx 7 rfl<|DL.sx 8 rfl<|DL.sx 9 rfl<|DL.sx 10 rfl<|DL.sx 11 rfl<|DL.sx 12 rfl<|DL.sx 13 rfl<|DL.sx 14 rfl<|DL.sx 15 rfl ?_
  refine DL.sx 16 rfl<|DL.fx 17 rfl (Fr.pkF rfl rfl)<|DL.D<|WQ.n<|WC.condF<|WC.skip<|WQ.bn<|WQ.n<|WC.rg<|WL.f (Fr.bo rfl rfl (BO.add (by omega) (by omega))) ?_
  exact WL.m rfl<|WL.nil<|WQ.again (k + 1) ⟨rfl,rfl,rfl,rfl,trivial⟩ ⟨hr,hps,hcls,hsw,hlt,by rw [List.take_succ_eq_append_getElem hlt,List.all_append,hal]; simpa using hpf,trivial⟩ (by omega)
 have hge:k = r.clients.length:=by have:=dcF hcond11; omega
 exact WC.exit<|WQ.tx<|WQ.tx<|WQ.bx<|WQ.n<|WC.rs<|WL.a rfl<|WL.go<|WC.ret<|WQ.ret rfl (.tmp rfl .nil) (by rw [hge,List.take_length] at hal; rw [show rPolite r = true from hal]; rfl)
theorem run_tick {rb:Nat} {r:RunS} (by_:Int) (t:TW) (hR:IsRun t rb r) (hlk:r.calls.length ≤ 900000) (hb0:0 ≤ by_) (hb1:by_ ≤ 18446744073709551615) (hn0:0 ≤ r.ticks) (hn1:r.ticks ≤ 1000000) (ha:r.h.acts.length ≤ 900000) (ht0:0 ≤ r.h.time.now ∧ r.h.time.now ≤ 18446744073709551615) (ht1:0 ≤ r.h.time.seq ∧ r.h.time.seq ≤ 18446744073709551615):Cal 46 [.pointer (some ⟨rb,0,none⟩),.int .u64 by_] t (fun z=>z = .run ∨ z = .calls ∨ z = .hall ∨ z = .acts) (fun v t' => IsRun t' rb (rTick r by_)):=by
 obtain ⟨hb,cv,bs,kv,ps,hr,hH,hps,hcls,hsw,hk⟩:=hR.out
 obtain ⟨Ap,cp,ecv,_⟩:=hps.form
 rw [hcls.1] at ecv
 subst ecv
 refine Cal.en Tryz.func46 rfl Tryz.ntmps46<|WC.rs<|WL.m rfl<|WL.m rfl<|WL.f (Fr.ncP rfl)<|WL.q 5 rfl fa107_5<|WL.r (Rd.ld rfl sc3 (hr.cell rfl))<|WL.m rfl<|WL.f (Fr.bd (vs:=[(0,.int .i64 9),(1,.int .i64 r.ticks),(4,.int .u64 by_)]) (cs:=#[.int .i64 9,.int .i64 r.ticks,.int .i64 0,.string ⟨#[]⟩,.int .i64 0,.int .i64 0,.int .i64 0,.int .u64 0,.slice none 0 0,.int .i64 0,.int .u64 by_,.int .i64 0,.int .i64 0,.int .i64 0,.int .i64 0,.slice none 0 0,.slice none 0 0,.bool false]) rfl (fun w=>by kernel_rfl))<|WL.e (Ef.call rfl en63 (run_began (c:=(⟨9,r.ticks,zOpr,0,by_,0,0,0,zReply⟩:CallS)) (uv:=.slice none 0 0) _ hr hk (Sl.nil _ _ _ _) (Sl.nil _ _ _ _) (Sl.nil _ _ _ _) hlk) (fun z h=>by rcases h with h | h <;> simp [h])) ?_
 rintro _ t1 ⟨s1,rfl,kv2,hr,hk⟩
 obtain ⟨hH,hps⟩:=Q2 (hH.n s1) (hps.n s1)
 have hcls:=hcls.step s1 (fun i z hz e=>by rcases e with e | e <;> subst e <;> rcases hz.cli with e | e <;> cases e)
 have hsw:=hsw.step' s1 ⟨(by rintro (h | h) <;> cases h),(by rintro (h | h) <;> cases h),(by rintro (h | h) <;> cases h)⟩
 refine WL.a rfl<|WL.go ?_
 have hlen:(rBegan r (⟨9,r.ticks,zOpr,0,by_,0,0,0,zReply⟩:CallS)).calls.length = r.calls.length + 1:=by simp [rBegan]
 obtain ⟨bk,ck1,csk,hkv,_⟩:=hk.block (by intro e; rw [e] at hlen; simp at hlen)
 have hk0:=hk
 rw [hkv] at hk0
 refine WC.drs (fun w=>At w rb 7 [kv2] ∧ At w rb 7 [kv2] ∧ At w rb 4 [.int .i64 (rBegan r (⟨9,r.ticks,zOpr,0,by_,0,0,0,zReply⟩:CallS)).n] ∧ True) .body (⟨hr.at rfl,hr.at rfl,hr.at rfl,trivial⟩) ?_
 obtain ⟨hH,hps⟩:=Q2 (hH.n (TW.drew_step _)) (hps.n (TW.drew_step _))
 have hcls:=hcls.step (TW.drew_step _) (fun _ _ _ h=>h)
 obtain ⟨hk,hr,hsw⟩:=Q3 (hk.n (TW.drew_step _)) (hr.n (TW.drew_step _)) (hsw.step' (TW.drew_step _) st0)
 refine DL.m 0 rfl rfl<|DL.fx 1 rfl (Fr.ncP rfl)<|DL.fx 2 rfl (Fr.q 7 rfl fa107_7)<|DL.m 4 rfl rfl<|DL.m 5 rfl rfl<|DL.fx 6 rfl (Fr.ncP rfl)<|DL.fx 7 rfl (Fr.q 7 rfl fa107_7)<|DL.m 9 rfl rfl<|DL.m 10 rfl rfl<|DL.fx 11 rfl (Fr.ncP rfl) ?_
 refine DL.fx 12 rfl (Fr.q 4 rfl fa107_4)<|DL.m 14 rfl rfl<|DL.fx 15 rfl (Fr.ncP rfl)<|DL.fx 16 rfl (Fr.q 4 rfl fa107_4)<|DL.hx 3 rfl (fun w hw=>Rd.ld rfl sc35 (hw.1.one rfl))<|DL.hx 8 rfl (fun w hw=>Rd.ld rfl sc35 (hw.2.1.one rfl))<|DL.hx 13 rfl (fun w hw=>Rd.ld rfl sc3 (hw.2.2.1.one rfl))<|DL.rx 17 rfl (Rd.ld rfl sc3 (hr.cell rfl))<|DL.fx 18 rfl (Fr.ix (congrArg some hkv) rfl sl35 (by omega) (by rw [hlen]; omega) (o' := r.calls.length * 18) (by simp))<|DL.fx 19 rfl (Fr.fa rfl fa61_6) ?_
 have hk0:=hk
 rw [hkv] at hk0
 refine DL.e0x 20 rfl (Ef.stG (dk:=kCall) (i:=r.calls.length) (j:=12) (x0:=cBeg r (⟨9,r.ticks,zOpr,0,by_,0,0,0,zReply⟩:CallS)) (z:=cPl (cBeg r (⟨9,r.ticks,zOpr,0,by_,0,0,0,zReply⟩:CallS)) r.n) rfl rfl hk0 rfl (by simp [kCall]) (show (rBegan r (⟨9,r.ticks,zOpr,0,by_,0,0,0,zReply⟩:CallS)).calls[r.calls.length]? = some (cBeg r (⟨9,r.ticks,zOpr,0,by_,0,0,0,zReply⟩:CallS)) by simp [rBegan]) rfl (by simp [Value.oneCell']) (fun t' c st h=>callR_pl h) sz3 rfl nofun (.inr (.inr (.inl rfl)))) (fun _ _ ⟨s,_⟩=>⟨hr.a s,hr.a s,hr.a s,trivial⟩) ?_
 rintro _ t2 ⟨s2,hk⟩
 obtain ⟨hH,hps⟩:=Q2 (hH.n s2) (hps.n s2)
 have hcls:=hcls.step s2 (fun i z hz e=>by subst e; rcases hz.cli with e | e <;> cases e)
 obtain ⟨hr,hsw⟩:=Q2 (hr.n s2) (hsw.step' s2 ⟨nofun,nofun,nofun⟩)
 refine DL.fx 21 rfl (Fr.ix (congrArg some hkv) rfl sl35 (by omega) (by rw [hlen]; omega) (o' := r.calls.length * 18) (by simp))<|DL.fx 22 rfl (Fr.fa rfl fa61_7)<|DL.e0x 23 rfl (Ef.stG (dk:=kCall) (i:=r.calls.length) (j:=13) (x0:=cPl (cBeg r (⟨9,r.ticks,zOpr,0,by_,0,0,0,zReply⟩:CallS)) r.n) (z:=cFin (cPl (cBeg r (⟨9,r.ticks,zOpr,0,by_,0,0,0,zReply⟩:CallS)) r.n) r.n) rfl rfl hk rfl (by simp [kCall]) (set_get (show (rBegan r (⟨9,r.ticks,zOpr,0,by_,0,0,0,zReply⟩:CallS)).calls[r.calls.length]? = some (cBeg r (⟨9,r.ticks,zOpr,0,by_,0,0,0,zReply⟩:CallS)) by simp [rBegan])) rfl (by simp [Value.oneCell']) (fun t' c st h=>callR_end h) sz3 rfl nofun (.inr (.inr (.inl rfl)))) (fun _ _ ⟨s,_⟩=>⟨hr.a s,hr.a s,hr.a s,trivial⟩) ?_
 rintro _ t3 ⟨s3,hk⟩
 obtain ⟨hH,hps⟩:=Q2 (hH.n s3) (hps.n s3)
 have hcls:=hcls.step s3 (fun i z hz e=>by subst e; rcases hz.cli with e | e <;> cases e)
 obtain ⟨hr,hsw⟩:=Q2 (hr.n s3) (hsw.step' s3 ⟨nofun,nofun,nofun⟩)
 refine DL.D<|WQ.n<|WC.rs<|WL.m rfl<|WL.f (Fr.ncP rfl)<|WL.q 5 rfl fa107_5<|WL.r (Rd.ld rfl sc3 (hr.cell rfl))<|WL.f (Fr.bo rfl rfl (BO.add (by show _ ≤ r.ticks + 1; omega) (by show r.ticks + 1 ≤ _; omega)))<|WL.f (Fr.ncP rfl)<|WL.q 5 rfl fa107_5 ?_
 refine WL.e0 (Ef.T [.int .i64 (((rBegan r (⟨9,r.ticks,zOpr,0,by_,0,0,0,zReply⟩:CallS)).ticks) + 1)] rfl rfl hr sz3 (.inr (.inl rfl))) ?_
 rintro _ t4 ⟨u4,s4,hr'⟩
 have hr:Bk t4 rb [.pointer (some ⟨hb,0,none⟩),.slice Ap r.clients.length cp,.pointer (some ⟨bs,0,none⟩),.int .i64 (rBegan r (⟨9,r.ticks,zOpr,0,by_,0,0,0,zReply⟩:CallS)).sweep,.int .i64 (rBegan r (⟨9,r.ticks,zOpr,0,by_,0,0,0,zReply⟩:CallS)).n,.int .i64 (((rBegan r (⟨9,r.ticks,zOpr,0,by_,0,0,0,zReply⟩:CallS)).ticks) + 1),.int .i64 (rBegan r (⟨9,r.ticks,zOpr,0,by_,0,0,0,zReply⟩:CallS)).sweeps,kv2] _ _:=hr'
 clear hr'
 obtain ⟨hH,hps⟩:=Q2 (hH.n s4) (hps.n s4)
 have hcls:=hcls.step s4 (fun i z hz e=>by subst e; rcases hz.cli with e | e <;> cases e)
 obtain ⟨hk,hsw⟩:=Q2 (hk.n s4) (hsw.step' s4 ⟨nofun,nofun,nofun⟩)
 refine WL.go<|WC.rg<|WL.m rfl<|WL.f (Fr.ncP rfl)<|WL.q 0 rfl fa107_0<|WL.r (Rd.ld rfl sc103 (hr.cell rfl))<|WL.m rfl<|WL.e (Ef.call rfl en69 (hall_Pass 9 by_ _ hH ha ht0 ht1 hb0 hb1) (fun z h=>by rcases h with h | h <;> simp [h])) ?_
 rintro _ t5 ⟨s5,hH⟩
 have hps:=hps.n s5
 have hcls:=hcls.step s5 (fun i z hz e=>by rcases e with e | e <;> subst e <;> rcases hz.cli with e | e <;> cases e)
 have hsw:=hsw.step' s5 ⟨(by rintro (h | h) <;> cases h),(by rintro (h | h) <;> cases h),(by rintro (h | h) <;> cases h)⟩
 obtain ⟨hk,hr⟩:=Q2 (hk.n s5) (hr.n s5)
 refine WL.nil ?_
 exact WQ.end_ rfl .nil (by
   refine ⟨⟨hb,_,bs,kv2,ps,hr,hH,hps,hcls,hsw,?_⟩⟩
   have e:(((rBegan r (⟨9,r.ticks,zOpr,0,by_,0,0,0,zReply⟩:CallS)).calls.set r.calls.length (cPl (cBeg r ⟨9,r.ticks,zOpr,0,by_,0,0,0,zReply⟩) r.n)).set r.calls.length (cFin (cPl (cBeg r ⟨9,r.ticks,zOpr,0,by_,0,0,0,zReply⟩) r.n) r.n)) = (rTick r by_).calls:=by
    show ((r.calls ++ [_]).set r.calls.length _).set r.calls.length _ = r.calls ++ [_]
    rw [List.set_set,List.set_append_right _ _ (Nat.le_refl _)]
    simp [cFin,cPl,cBeg]
   rw [← e,hkv]
   exact hk)
abbrev swT (k:Nat):Tag → Prop:=fun z=>z = .sweep 0 ∨ z = .hall ∨ z = .acts ∨ z = .strs ∨ (∃ j,z = .ring k j ∨ z = .rrow k j) ∨ z = .obj 8 0
abbrev sT (k:Nat):Tag → Prop:=fun z=>z = .run ∨ z = .calls ∨ swT k z
theorem sTr {k:Nat}:∀ z,(z = .run ∨ z = .calls) → sT k z:=fun _ h=>h.elim .inl fun h=>.inr (.inl h)
theorem sTs {k:Nat}:∀ z,swT k z → sT k z:=fun _ h=>.inr (.inr h)
theorem Cls.step8 {t t' : TW} {ps:List Nat} {cs:List ClientS} {T:Tag → Prop} (h:Cls t ps cs) (hl:cs.length ≤ 8) (s:Step T t t') (hT:∀ i,i < 8 → ∀ z,CT i z → ¬ T z):Cls t' ps cs:=⟨h.1,fun i b c h1 h2=>(h.2 i b c h1 h2).step s (hT i (by have:=(List.getElem?_eq_some_iff.1 h2).1; omega))⟩
theorem ct0:∀ i,i < 8 → ∀ z,CT i z → ¬ No z:=fun _ _ _ _ h=>h
theorem ct1 {g:Tag} (h:g.cli = none) (hg:g ≠ .fz):∀ i,i < 8 → ∀ z,CT i z → ¬ (z = g):=fun i _ z hz e=>by
 subst e
 rcases hz.cli with e | e
 ·rw [e] at h
  cases h
 ·exact hg e
theorem ct2 {A B:Tag → Prop} (h1:∀ i,i < 8 → ∀ z,CT i z → ¬ A z) (h2:∀ i,i < 8 → ∀ z,CT i z → ¬ B z):∀ i,i < 8 → ∀ z,CT i z → ¬ (A z ∨ B z):=fun i hi z hz h=>h.elim (h1 i hi z hz) (h2 i hi z hz)
theorem ctS {k:Nat}:∀ i,i < 8 → ∀ z,CT i z → ¬ swT k z:=fun i hi z hz h=>by
 rcases h with h | h | h | h | ⟨j,h | h⟩ | h <;> subst h
 all_goals rcases hz.cli with e | e
 all_goals first | cases e; done | (have e2:=Option.some.inj e; omega)
def rSkip (r:RunS):Bool:=!wEnabled r.h r.sw.now || (decide (r.sweep < 0) && !rPolite r)
theorem rSkip_t {r:RunS} (h:rSkip r = true):sweepStepR r = (r,false):=by
 unfold sweepStepR
 rw [if_pos]
 unfold rSkip at h
 simpa using h
theorem rSkip_f {r:RunS} (h:rSkip r = false):sweepStepR r = (rSwMove (rSwBeg r),true):=by
 unfold sweepStepR
 rw [if_neg]
 intro h2
 have:rSkip r = true:=by
  unfold rSkip
  simpa using h2
 rw [this] at h
 cases h
theorem rSwBeg_h (r:RunS):(rSwBeg r).h = r.h ∧ (rSwBeg r).n = r.n ∧ (rSwBeg r).clients = r.clients ∧ (rSwBeg r).sw = r.sw:=by
 unfold rSwBeg
 split <;> exact ⟨rfl,rfl,rfl,rfl⟩
theorem run_sweep {rb:Nat} {r:RunS} (t:TW) (hR:IsRun t rb r) (hlc:r.clients.length ≤ 8) (hlk:r.calls.length ≤ 900000) (hpn:∀ c ∈ r.clients,∀ p,c.now = some p → POk r.h p) (hs:r.sw.now.s < r.h.strs.length) (hs8:r.h.strs.length ≤ 8) (hk8:wEnabled r.h r.sw.now = true → nilAct r.sw.now.act = false → WOk r.h r.sw.now) (hst:r.sw.stripe ≤ 1000) (hr0:0 ≤ r.sw.rounds) (hr1:r.sw.rounds ≤ 1000000) (hw0:0 ≤ r.sweeps) (hw1:r.sweeps ≤ 1000000) (hsc:r.sweep < 0 ∨ r.sweep < (r.calls.length:Int)):Cal 45 [.pointer (some ⟨rb,0,none⟩)] t (sT r.sw.now.s) (fun v t' => v = .bool (sweepStepR r).2 ∧ IsRun t' rb (sweepStepR r).1):=by
 have hR0:=hR
 obtain ⟨hb,cv,bs,kv,ps,hr,hH,hps,hcls,hsw,hk⟩:=hR.out
 obtain ⟨Ap,cp,ecv,_⟩:=hps.form
 rw [hcls.1] at ecv
 subst ecv
 have hr1r:=hr1
 clear hr1
 refine Cal.en Tryz.func45 rfl Tryz.ntmps45<|WC.rs<|WL.a rfl<|WL.go<|WC.seq ?_
 refine WC.seqJ (σ:=Unit) (fun _ t' => Bk t' rb [.pointer (some ⟨hb,0,none⟩),.slice Ap r.clients.length cp,.pointer (some ⟨bs,0,none⟩),.int .i64 r.sweep,.int .i64 r.n,.int .i64 r.ticks,.int .i64 r.sweeps,kv] 107 (.run) ∧ IsHall t' hb r.h ∧ Sl t' kPtr (.slice Ap r.clients.length cp) ps ∧ Cls t' ps r.clients ∧ IsSw t' bs r.sw ∧ Row t' .calls 0 61 kCall kv r.calls ∧ IsRun t' rb r ∧ True) (fun _=>[(0,.pointer (some ⟨rb,0,none⟩)),(2,.bool false),(25,.bool (rSkip r))]) ?_ ?_
 ·refine WC.dr (fun w=>At w rb 2 [.pointer (some ⟨bs,0,none⟩)] ∧ True) (.then_ (.then_ .body)) (⟨hr.at rfl,trivial⟩) ?_
  obtain ⟨hH,hcls,hk,hps,hr,hsw⟩:=Q6 (hH.n (TW.drew_step _)) (hcls.step8 hlc (TW.drew_step _) ct0) (hk.n (TW.drew_step _)) (hps.n (TW.drew_step _)) (hr.n (TW.drew_step _)) (hsw.step' (TW.drew_step _) st0)
  have hR0:IsRun _ rb r:=⟨⟨hb,_,bs,_,ps,hr,hH,hps,hcls,hsw,hk⟩⟩
  refine DL.m 0 rfl rfl<|DL.fx 1 rfl (Fr.ncP rfl)<|DL.fx 2 rfl (Fr.q 2 rfl fa107_2)<|DL.m 4 rfl rfl<|DL.fx 5 rfl (Fr.ncP rfl)<|DL.fx 6 rfl (Fr.q 0 rfl fa107_0)<|DL.hx 3 rfl (fun w hw=>Rd.ld rfl sc105 (hw.1.one rfl))<|DL.rx 7 rfl (Rd.ld rfl sc103 (hr.cell rfl))<|DL.ex 8 rfl (Ef.call rfl en64 (sweep_Enabled _ hsw hH hs hs8) (fun _ h=>h.elim)) (fun _ _ ⟨s,_⟩=>⟨hr.a s,trivial⟩) ?_
  rintro _ t1 ⟨s1,rfl⟩
  obtain ⟨hH,hcls,hk,hps,hr,hsw⟩:=Q6 (hH.n s1) (hcls.step8 hlc s1 ct0) (hk.n s1) (hps.n s1) (hr.n s1) (hsw.step' s1 st0)
  have hR0:IsRun _ rb r:=⟨⟨hb,_,bs,_,ps,hr,hH,hps,hcls,hsw,hk⟩⟩
  refine DL.fx 9 rfl (Fr.un_not rfl)<|DL.m 10 rfl rfl ?_
  refine DL.pin 14 rfl (fun hp14=>?_) (fun hp14=>?_)
  focus
   refine DL.sx 11 rfl<|DL.sx 12 rfl<|DL.sx 13 rfl<|DL.sx 14 rfl<|DL.sx 15 rfl<|DL.sx 16 rfl<|DL.sx 17 rfl<|DL.sx 18 rfl<|DL.sx 19 rfl<|DL.sx 20 rfl ?_
   refine DL.fx 21 rfl (Fr.pkT rfl rfl)<|DL.D ?_
   have eb:rSkip r = true:=by unfold rSkip; rw [show wEnabled r.h r.sw.now = false by simpa using hp14]; rfl
  rotate_left
  focus
   refine DL.m 11 rfl rfl<|DL.fx 12 rfl (Fr.ncP rfl)<|DL.fx 13 rfl (Fr.q 3 rfl fa107_3)<|DL.rx 14 rfl (Rd.ld rfl sc3 (hr.cell rfl))<|DL.fx 15 rfl (Fr.bo rfl rfl BO.lt)<|DL.m 16 rfl rfl ?_
   refine DL.pin 20 rfl (fun hp20=>?_) (fun hp20=>?_)
   focus
    refine DL.m 17 rfl rfl<|DL.ex 18 rfl (Ef.call rfl en65 (run_polite _ hR0 (by omega) hpn) (fun _ h=>h.elim)) (fun _ _ ⟨s,_⟩=>⟨hr.a s,trivial⟩) ?_
    rintro _ t2 ⟨s2,rfl⟩
    obtain ⟨hH,hcls,hk,hps,hr,hsw⟩:=Q6 (hH.n s2) (hcls.step8 hlc s2 ct0) (hk.n s2) (hps.n s2) (hr.n s2) (hsw.step' s2 st0)
    have hR0:IsRun _ rb r:=⟨⟨hb,_,bs,_,ps,hr,hH,hps,hcls,hsw,hk⟩⟩
    refine DL.fx 19 rfl (Fr.un_not rfl)<|DL.fx 20 rfl (Fr.pkT rfl rfl)<|DL.fx 21 rfl (Fr.pkF rfl rfl)<|DL.D ?_
    have eb:rSkip r = (!rPolite r):=by unfold rSkip; rw [show wEnabled r.h r.sw.now = true by simpa using hp14,show decide (r.sweep < 0) = true from hp20]; rfl
   rotate_left
   focus
    refine DL.sx 17 rfl<|DL.sx 18 rfl<|DL.sx 19 rfl<|DL.fx 20 rfl (Fr.pkF rfl rfl)<|DL.fx 21 rfl (Fr.pkF rfl rfl)<|DL.D ?_
    have eb:rSkip r = false:=by unfold rSkip; rw [show wEnabled r.h r.sw.now = true by simpa using hp14,show decide (r.sweep < 0) = false from hp20]; rfl
  all_goals
   exact WQ.join () ⟨rfl,rfl,by rw [eb]; rfl,trivial⟩ ⟨hr,hH,hps,hcls,hsw,hk,hR0,trivial⟩
 rintro _ t3 ⟨hr,hH,hps,hcls,hsw,hk,hR0,_⟩
 refine WC.condS rfl (fun hcond25=>?_) (fun hcond25=>?_)
 ·exact WC.rs<|WL.a rfl<|WL.go<|WC.ret<|WQ.tr<|WQ.ret rfl (.tmp rfl .nil) (by rw [rSkip_t (show rSkip r = true from hcond25)]; exact ⟨rfl,hR0⟩)
 refine WC.skip<|WQ.n ?_
 obtain ⟨r1,hr1⟩:∃ r1,r1 = rSwBeg r:=⟨_,rfl⟩
 refine WC.seqJ (σ:=Unit) (fun _ t' => IsHall t' hb r.h ∧ Sl t' kPtr (.slice Ap r.clients.length cp) ps ∧ Cls t' ps r.clients ∧ IsSw t' bs r.sw ∧ (∃ kv1,Bk t' rb (runC r1 hb (.slice Ap r.clients.length cp) bs kv1) 107 .run ∧ Row t' .calls 0 61 kCall kv1 r1.calls) ∧ True) (fun _=>[(0,.pointer (some ⟨rb,0,none⟩)),(2,.bool false)]) ?_ ?_
 ·refine WC.rs<|WL.m rfl<|WL.f (Fr.ncP rfl)<|WL.q 3 rfl fa107_3<|WL.r (Rd.ld rfl sc3 (hr.cell rfl))<|WL.f (Fr.bo rfl rfl BO.lt)<|WL.go ?_
  refine WC.condS rfl (fun hcond30=>?_) (fun hcond30=>?_)
  focus
   have hneg:r.sweep < 0:=dcT hcond30
   refine WC.drs (fun w=>At w rb 6 [.int .i64 r.sweeps] ∧ True) (.then_ .body) (⟨hr.at rfl,trivial⟩) ?_
   obtain ⟨hH,hcls,hk,hps,hr,hsw⟩:=Q6 (hH.n (TW.drew_step _)) (hcls.step8 hlc (TW.drew_step _) ct0) (hk.n (TW.drew_step _)) (hps.n (TW.drew_step _)) (hr.n (TW.drew_step _)) (hsw.step' (TW.drew_step _) st0)
   have hR0:IsRun _ rb r:=⟨⟨hb,_,bs,_,ps,hr,hH,hps,hcls,hsw,hk⟩⟩
   refine DL.m 0 rfl rfl<|DL.m 1 rfl rfl<|DL.m 2 rfl rfl<|DL.fx 3 rfl (Fr.ncP rfl)<|DL.fx 4 rfl (Fr.q 6 rfl fa107_6)<|DL.m 6 rfl rfl<|DL.fx 7 rfl (Fr.ncP rfl)<|DL.fx 8 rfl (Fr.q 2 rfl fa107_2)<|DL.hx 5 rfl (fun w hw=>Rd.ld rfl sc3 (hw.1.one rfl))<|DL.rx 9 rfl (Rd.ld rfl sc105 (hr.cell rfl)) ?_
   refine DL.ex 10 rfl (Ef.call rfl en66 (sweep_Stripe _ hsw) (fun _ h=>h.elim)) (fun _ _ ⟨s,_⟩=>⟨hr.a s,trivial⟩) ?_
   rintro _ t4 ⟨s4,rfl⟩
   obtain ⟨hH,hcls,hk,hps,hr,hsw⟩:=Q6 (hH.n s4) (hcls.step8 hlc s4 ct0) (hk.n s4) (hps.n s4) (hr.n s4) (hsw.step' s4 st0)
   have hR0:IsRun _ rb r:=⟨⟨hb,_,bs,_,ps,hr,hH,hps,hcls,hsw,hk⟩⟩
   refine DL.fx 11 rfl (Fr.bd (vs:=[(0,.int .i64 8),(1,.int .i64 r.sweeps),(3,.int .i64 (r.sw.stripe:Int))]) (cs:=#[.int .i64 8,.int .i64 r.sweeps,.int .i64 0,.string ⟨#[]⟩,.int .i64 0,.int .i64 0,.int .i64 0,.int .u64 0,.slice none 0 0,.int .i64 (r.sw.stripe:Int),.int .u64 0,.int .i64 0,.int .i64 0,.int .i64 0,.int .i64 0,.slice none 0 0,.slice none 0 0,.bool false]) rfl (fun w=>by kernel_rfl))<|DL.ex 12 rfl (Ef.call rfl en63 (run_began (c:=(⟨8,r.sweeps,zOpr,r.sw.stripe,0,0,0,0,zReply⟩:CallS)) (uv:=.slice none 0 0) _ hr hk (Sl.nil _ _ _ _) (Sl.nil _ _ _ _) (Sl.nil _ _ _ _) hlk) (sTr)) (fun _ _ ⟨_,_,_,hb,_⟩=>⟨hb.at rfl,trivial⟩) ?_
   rintro _ t5 ⟨s5,rfl,kv2,hr,hk⟩
   obtain ⟨hH,hcls,hps,hsw⟩:=Q4 (hH.n s5) (hcls.step8 hlc s5 (ct2 (ct1 rfl nofun) (ct1 rfl nofun))) (hps.n s5) (hsw.step' s5 stRC)
   refine DL.fx 13 rfl (Fr.ncP rfl)<|DL.fx 14 rfl (Fr.q 3 rfl fa107_3)<|DL.e0x 15 rfl (Ef.T [.int .i64 (r.calls.length:Int)] rfl rfl hr sz3 (.inr (.inl rfl))) (fun _ _ ⟨_,_,hb⟩=>⟨hb.at rfl,trivial⟩) ?_
   rintro _ t6 ⟨u6,s6,hr'⟩
   have hr:Bk t6 rb [.pointer (some ⟨hb,0,none⟩),.slice Ap r.clients.length cp,.pointer (some ⟨bs,0,none⟩),.int .i64 (r.calls.length:Int),.int .i64 (rBegan r (⟨8,r.sweeps,zOpr,r.sw.stripe,0,0,0,0,zReply⟩:CallS)).n,.int .i64 (rBegan r (⟨8,r.sweeps,zOpr,r.sw.stripe,0,0,0,0,zReply⟩:CallS)).ticks,.int .i64 (rBegan r (⟨8,r.sweeps,zOpr,r.sw.stripe,0,0,0,0,zReply⟩:CallS)).sweeps,kv2] _ _:=hr'
   clear hr'
   obtain ⟨hH,hcls,hk,hps,hsw⟩:=Q5 (hH.n s6) (hcls.step8 hlc s6 (ct1 rfl nofun)) (hk.n s6) (hps.n s6) (hsw.step' s6 ⟨nofun,nofun,nofun⟩)
   refine DL.D<|WQ.n<|WC.rg<|WL.m rfl<|WL.f (Fr.ncP rfl)<|WL.q 6 rfl fa107_6<|WL.r (Rd.ld rfl sc3 (hr.cell rfl))<|WL.f (Fr.bo rfl rfl (BO.add (by show _ ≤ r.sweeps + 1; omega) (by show r.sweeps + 1 ≤ _; omega)))<|WL.f (Fr.ncP rfl)<|WL.q 6 rfl fa107_6 ?_
   refine WL.e0 (Ef.T [.int .i64 (((rBegan r (⟨8,r.sweeps,zOpr,r.sw.stripe,0,0,0,0,zReply⟩:CallS)).sweeps) + 1)] rfl rfl hr sz3 (.inr (.inl rfl))) ?_
   rintro _ t7 ⟨u7,s7,hr'⟩
   have hr:Bk t7 rb [.pointer (some ⟨hb,0,none⟩),.slice Ap r.clients.length cp,.pointer (some ⟨bs,0,none⟩),.int .i64 (r.calls.length:Int),.int .i64 (rBegan r (⟨8,r.sweeps,zOpr,r.sw.stripe,0,0,0,0,zReply⟩:CallS)).n,.int .i64 (rBegan r (⟨8,r.sweeps,zOpr,r.sw.stripe,0,0,0,0,zReply⟩:CallS)).ticks,.int .i64 (((rBegan r (⟨8,r.sweeps,zOpr,r.sw.stripe,0,0,0,0,zReply⟩:CallS)).sweeps) + 1),kv2] _ _:=hr'
   clear hr'
   obtain ⟨hH,hcls,hk,hps,hsw⟩:=Q5 (hH.n s7) (hcls.step8 hlc s7 (ct1 rfl nofun)) (hk.n s7) (hps.n s7) (hsw.step' s7 ⟨nofun,nofun,nofun⟩)
   refine WL.nil ?_
   have hI:(∃ kv1,Bk t7 rb (runC r1 hb (.slice Ap r.clients.length cp) bs kv1) 107 .run ∧ Row t7 .calls 0 61 kCall kv1 r1.calls):=by rw [hr1]; unfold rSwBeg; rw [if_pos hneg]; exact ⟨kv2,hr,hk⟩
  rotate_left
  focus
   have hneg:¬ r.sweep < 0:=dcF hcond30
   refine WC.skip ?_
   have hI:(∃ kv1,Bk t3 rb (runC r1 hb (.slice Ap r.clients.length cp) bs kv1) 107 .run ∧ Row t3 .calls 0 61 kCall kv1 r1.calls):=by rw [hr1]; unfold rSwBeg; rw [if_neg hneg]; exact ⟨kv,hr,hk⟩
  all_goals
   exact WQ.join () ⟨rfl,rfl,trivial⟩ ⟨hH,hps,hcls,hsw,hI,trivial⟩
 rintro _ t8 ⟨hH,hps,hcls,hsw,hI,_⟩
 obtain ⟨kv1,hr,hk⟩:=hI
 refine WC.drs (fun w=>At w rb 7 [kv1] ∧ True) .body (⟨hr.at rfl,trivial⟩) ?_
 obtain ⟨hH,hcls,hk,hps,hr,hsw⟩:=Q6 (hH.n (TW.drew_step _)) (hcls.step8 hlc (TW.drew_step _) ct0) (hk.n (TW.drew_step _)) (hps.n (TW.drew_step _)) (hr.n (TW.drew_step _)) (hsw.step' (TW.drew_step _) st0)
 refine DL.m 0 rfl rfl<|DL.fx 1 rfl (Fr.ncP rfl)<|DL.fx 2 rfl (Fr.q 7 rfl fa107_7)<|DL.m 4 rfl rfl<|DL.fx 5 rfl (Fr.ncP rfl)<|DL.fx 6 rfl (Fr.q 3 rfl fa107_3)<|DL.hx 3 rfl (fun w hw=>Rd.ld rfl sc35 (hw.1.one rfl))<|DL.rx 7 rfl (Rd.ld rfl sc3 (hr.cell rfl)) ?_
 have hsw1:0 ≤ r1.sweep ∧ r1.sweep < (r1.calls.length:Int):=by
  rw [hr1]
  unfold rSwBeg
  split
  ·exact ⟨by show (0:Int) ≤ (r.calls.length:Int); omega,by show (r.calls.length:Int) < ((r.calls ++ [_]).length:Int); simp only [List.length_append,List.length_cons,List.length_nil]; omega⟩
  omega
 obtain ⟨j,hj⟩:=Int.eq_ofNat_of_zero_le hsw1.1
 have hjl:j < r1.calls.length:=by omega
 have hjc:=List.getElem?_eq_getElem hjl
 obtain ⟨bk,ck1,csk,hkv,_⟩:=hk.block (by intro e; rw [e] at hjl; exact absurd hjl (Nat.not_lt_zero _))
 refine DL.fx 8 rfl (Fr.ix (congrArg some hkv) rfl sl35 (by omega) (by omega) (o' := j * 18) (by rw [hj]; simp))<|DL.fx 9 rfl (Fr.as rfl)<|DL.D<|WQ.n<|WC.seq<|WC.drs (fun w=>At w rb 2 [.pointer (some ⟨bs,0,none⟩)] ∧ At w rb 0 [.pointer (some ⟨hb,0,none⟩)] ∧ True) (.then_ .body) (⟨hr.at rfl,hr.at rfl,trivial⟩) ?_
 obtain ⟨hH,hcls,hk,hps,hr,hsw⟩:=Q6 (hH.n (TW.drew_step _)) (hcls.step8 hlc (TW.drew_step _) ct0) (hk.n (TW.drew_step _)) (hps.n (TW.drew_step _)) (hr.n (TW.drew_step _)) (hsw.step' (TW.drew_step _) st0)
 refine DL.m 0 rfl rfl<|DL.fx 1 rfl (Fr.ncP rfl)<|DL.fx 2 rfl (Fr.q 2 rfl fa107_2)<|DL.m 4 rfl rfl<|DL.fx 5 rfl (Fr.ncP rfl)<|DL.fx 6 rfl (Fr.q 0 rfl fa107_0)<|DL.m 8 rfl rfl<|DL.fx 9 rfl (Fr.ncP rfl)<|DL.fx 10 rfl (Fr.q 4 rfl fa107_4)<|DL.hx 3 rfl (fun w hw=>Rd.ld rfl sc105 (hw.1.one rfl)) ?_
 refine DL.hx 7 rfl (fun w hw=>Rd.ld rfl sc103 (hw.2.1.one rfl))<|DL.rx 11 rfl (Rd.ld rfl sc3 (hr.cell rfl))<|DL.ex 12 rfl (Ef.call rfl en67 (sweep_Step r1.n _ hsw hH hs hs8 hk8 hst hr0 hr1r) (sTs)) (fun _ _ ⟨s,_⟩=>⟨(hr.step s (by rintro (h | h | h | h | ⟨_,h | h⟩ | h) <;> cases h)).at rfl,(hr.step s (by rintro (h | h | h | h | ⟨_,h | h⟩ | h) <;> cases h)).at rfl,trivial⟩) ?_
 rintro _ t9 ⟨s9,rfl,hH,hsw⟩
 have hr:=hr.step s9 (by rintro (h | h | h | h | ⟨_,h | h⟩ | h) <;> cases h)
 have hps:=hps.step s9 (by rintro (h | h | h | h | ⟨_,h | h⟩ | h) <;> cases h)
 have hcls:=hcls.step8 hlc s9 ctS
 have hk:=hk.step s9 (by rintro (h | h | h | h | ⟨_,h | h⟩ | h) <;> cases h) (by rintro (h | h | h | h | ⟨_,h | h⟩ | h) <;> cases h)
 obtain ⟨q,hq⟩:∃ q,q = swStep r.h r.sw r1.n:=⟨_,rfl⟩
 rw [← hq] at hH hsw
 refine DL.D<|WQ.n ?_
 refine WC.condS rfl (fun hcond74=>?_) (fun hcond74=>?_)
 ·refine WC.rs<|WL.m rfl<|WL.m rfl<|WL.f (Fr.ncP rfl)<|WL.q 4 rfl fa107_4<|WL.r (Rd.ld rfl sc3 (hr.cell rfl))<|WL.f (Fr.ncP rfl)<|WL.f (Fr.fa rfl fa61_7) ?_
  have hk0:=hk
  rw [hkv] at hk0
  refine WL.e0 (Ef.stG (dk:=kCall) (i:=j) (j:=13) (x0:=r1.calls[j]) (z:=cFin r1.calls[j] r1.n) rfl rfl hk0 rfl (by simp [kCall]) hjc rfl (by simp [Value.oneCell']) (fun t' c st h=>callR_end h) sz3 rfl nofun (.inr (.inr (.inl rfl)))) ?_
  rintro _ t10 ⟨s10,hk⟩
  obtain ⟨hH,hcls,hps,hr,hsw⟩:=Q5 (hH.n s10) (hcls.step8 hlc s10 (ct1 rfl nofun)) (hps.n s10) (hr.n s10) (hsw.step' s10 ⟨nofun,nofun,nofun⟩)
  refine WL.go<|WC.rs<|WL.m rfl<|WL.f (Fr.ncP rfl)<|WL.q 3 rfl fa107_3<|WL.e0 (Ef.T [.int .i64 (-1)] rfl rfl hr sz3 (.inr (.inl rfl))) ?_
  rintro _ t11 ⟨u11,s11,hr'⟩
  have hr:Bk t11 rb [.pointer (some ⟨hb,0,none⟩),.slice Ap r.clients.length cp,.pointer (some ⟨bs,0,none⟩),.int .i64 (-1),.int .i64 r1.n,.int .i64 r1.ticks,.int .i64 r1.sweeps,kv1] _ _:=hr'
  clear hr'
  obtain ⟨hH,hcls,hk,hps,hsw⟩:=Q5 (hH.n s11) (hcls.step8 hlc s11 (ct1 rfl nofun)) (hk.n s11) (hps.n s11) (hsw.step' s11 ⟨nofun,nofun,nofun⟩)
  refine WL.go<|WC.rs<|WL.a rfl<|WL.go<|WC.ret<|WQ.tr ?_
  exact WQ.ret rfl (.tmp rfl .nil) (by
        rw [rSkip_f (show rSkip r = false from hcond25),← hr1]
        obtain ⟨e1,e2,e3,e4⟩:=rSwBeg_h r
        rw [← hr1] at e1 e2 e3 e4
        have eq:q = swStep r1.h r1.sw r1.n:=by { rw [e1,e4]; exact hq }
        refine ⟨rfl,?_⟩
        unfold rSwMove
        simp only [← eq]
        rw [if_pos (by rw [hq]; exact hcond74)]
        refine ⟨⟨hb,_,bs,kv1,ps,hr,hH,hps,by rw [← e3] at hcls; exact hcls,hsw,?_⟩⟩
        show Row _ .calls 0 61 kCall _ (r1.calls.modify r1.sweep.toNat _)
        rw [show r1.sweep.toNat = j by omega,modify_set _ hjc,hkv]
        exact hk)
 refine WC.skip<|WQ.n<|WC.rs<|WL.m rfl<|WL.m rfl<|WL.f (Fr.ncP rfl)<|WL.q 2 rfl fa107_2<|WL.r (Rd.ld rfl sc105 (hr.cell rfl))<|WL.e (Ef.call rfl en68 (sweep_Placed _ hsw) (fun _ h=>h.elim)) ?_
 rintro _ t12 ⟨s12,rfl⟩
 obtain ⟨hH,hcls,hk,hps,hr,hsw⟩:=Q6 (hH.n s12) (hcls.step8 hlc s12 ct0) (hk.n s12) (hps.n s12) (hr.n s12) (hsw.step' s12 st0)
 refine WL.f (Fr.ncP rfl)<|WL.f (Fr.fa rfl fa61_6) ?_
 have hk0:=hk
 rw [hkv] at hk0
 refine WL.e0 (Ef.stG (dk:=kCall) (i:=j) (j:=12) (x0:=r1.calls[j]) (z:=cPl r1.calls[j] q.2.1.now.placed) rfl rfl hk0 rfl (by simp [kCall]) hjc rfl (by simp [Value.oneCell']) (fun t' c st h=>callR_pl h) sz3 rfl nofun (.inr (.inr (.inl rfl)))) ?_
 rintro _ t13 ⟨s13,hk⟩
 obtain ⟨hH,hcls,hps,hr,hsw⟩:=Q5 (hH.n s13) (hcls.step8 hlc s13 (ct1 rfl nofun)) (hps.n s13) (hr.n s13) (hsw.step' s13 ⟨nofun,nofun,nofun⟩)
 refine WL.go<|WC.rs<|WL.a rfl<|WL.go<|WC.ret ?_
 exact WQ.ret rfl (.tmp rfl .nil) (by
       rw [rSkip_f (show rSkip r = false from hcond25),← hr1]
       obtain ⟨e1,e2,e3,e4⟩:=rSwBeg_h r
       rw [← hr1] at e1 e2 e3 e4
       have eq:q = swStep r1.h r1.sw r1.n:=by { rw [e1,e4]; exact hq }
       refine ⟨rfl,?_⟩
       unfold rSwMove
       simp only [← eq]
       rw [if_neg (by rw [hq]; exact fun h=>Bool.noConfusion (hcond74.symm.trans h))]
       refine ⟨⟨hb,_,bs,kv1,ps,hr,hH,hps,by rw [← e3] at hcls; exact hcls,hsw,?_⟩⟩
       show Row _ .calls 0 61 kCall _ (r1.calls.modify r1.sweep.toNat _)
       rw [show r1.sweep.toNat = j by omega,modify_set _ hjc,hkv]
       exact hk)
def RT:Tag → Prop
 | .fz=>False
 | .loc _=>False
 | .nw _ _=>False
 | _=>True
theorem rtC {i:Nat}:∀ z,cT i z → RT z:=fun _ h=>by
 rcases h with h | h | h | h | h | h | h | ⟨s,h | ⟨k,h | h⟩⟩ | h | h | h | h | h <;> subst h <;> trivial
theorem rtS {k:Nat}:∀ z,sT k z → RT z:=fun _ h=>by
 rcases h with h | h | h | h | h | h | ⟨j,h | h⟩ | h <;> subst h <;> trivial
theorem rtT:∀ z,(z = .run ∨ z = .calls ∨ z = .hall ∨ z = .acts) → RT z:=fun _ h=>by
 rcases h with h | h | h | h <;> subst h <;> trivial
structure RunOk (r:RunS):Prop where
 cl:r.clients.length ≤ 8
 kl:r.calls.length ≤ 900000
 sl:r.h.strs.length ≤ 8
 s0:0 ≤ r.h.cfg.stripes
 s1:r.h.cfg.stripes ≤ 1000
 ol:∀ c ∈ r.clients,c.ops.length ≤ 1000
 ops:∀ c ∈ r.clients,∀ x ∈ c.ops,x.users.length ≤ 900 ∧ x.user.size ≤ 1000000 ∧ ∀ u ∈ x.users,u.size ≤ 1000000
 pk:∀ i c,r.clients[i]? = some c → ∀ p,(rPre r i c).2.now = some p → POk r.h p
 ck:∀ i c,r.clients[i]? = some c → (rPre r i c).2.now ≠ none → 0 ≤ (rPre r i c).2.call ∧ (rPre r i c).2.call < ((rPre r i c).1.calls.length:Int)
 pn:∀ c ∈ r.clients,∀ p,c.now = some p → POk r.h p
 ws:r.sw.now.s < r.h.strs.length
 wk:wEnabled r.h r.sw.now = true → nilAct r.sw.now.act = false → WOk r.h r.sw.now
 st:r.sw.stripe ≤ 1000
 rd:0 ≤ r.sw.rounds ∧ r.sw.rounds ≤ 1000000
 sv:0 ≤ r.sweeps ∧ r.sweeps ≤ 1000000
 tk:0 ≤ r.ticks ∧ r.ticks ≤ 1000000
 nn:0 ≤ r.n ∧ r.n ≤ 1000000
 sc:r.sweep < 0 ∨ r.sweep < (r.calls.length:Int)
 al:r.h.acts.length ≤ 900000
 t0:0 ≤ r.h.time.now ∧ r.h.time.now ≤ 18446744073709551615
 t1:0 ≤ r.h.time.seq ∧ r.h.time.seq ≤ 18446744073709551615
theorem run_clientA {rb:Nat} {r:RunS} (who:Int) (t:TW) (hR:IsRun t rb r) (k:RunOk r):Cal 44 [.pointer (some ⟨rb,0,none⟩),.int .i64 who] t RT (fun v t' => v = .bool (clientStep r who).2 ∧ IsRun t' rb (clientStep r who).1):=by
 by_cases h:who < 0 ∨ (r.clients.length:Int) ≤ who
 ·rw [show clientStep r who = (r,false) by unfold clientStep; rw [if_pos h]]
  exact (run_client_out who t hR h).mono (fun _ h=>h.elim) fun _ _ _ h=>h
 obtain ⟨i,rfl⟩:=Int.eq_ofNat_of_zero_le (show 0 ≤ who by omega)
 have hi:i < r.clients.length:=by omega
 have hci:=List.getElem?_eq_getElem hi
 have hm:=List.getElem_mem hi
 have:=k.cl
 exact (run_client t hR hci (by omega) k.kl k.sl k.s0 k.s1 (k.ol _ hm) (k.ops _ hm) (k.pk _ _ hci) (k.ck _ _ hci)).mono rtC fun _ _ _ h=>h
theorem run_sweepA {rb:Nat} {r:RunS} (t:TW) (hR:IsRun t rb r) (k:RunOk r):Cal 45 [.pointer (some ⟨rb,0,none⟩)] t RT (fun v t' => v = .bool (sweepStepR r).2 ∧ IsRun t' rb (sweepStepR r).1):=
 (run_sweep t hR k.cl k.kl k.pn k.ws k.sl k.wk k.st k.rd.1 k.rd.2 k.sv.1 k.sv.2 k.sc).mono rtS fun _ _ _ h=>h
theorem run_tickA {rb:Nat} {r:RunS} (by_:Int) (t:TW) (hR:IsRun t rb r) (k:RunOk r) (hb:0 ≤ by_ ∧ by_ ≤ 18446744073709551615):Cal 46 [.pointer (some ⟨rb,0,none⟩),.int .u64 by_] t RT (fun v t' => IsRun t' rb (rTick r by_)):=
 (run_tick by_ t hR k.kl hb.1 hb.2 k.tk.1 k.tk.2 k.al k.t0 k.t1).mono rtT fun _ _ _ h=>h
theorem IsRun.step {t t' : TW} {rb:Nat} {r:RunS} {T:Tag → Prop} (h:IsRun t rb r) (s:Step T t t') (hT:∀ z,T z → ¬ RT z) (h0:¬ T .fz):IsRun t' rb r:=by
 obtain ⟨hb,cv,bs,kv,ps,hr,hH,hps,hcls,hsw,hk⟩:=h.out
 have n:∀ z,RT z → ¬ T z:=fun z h1 h2=>hT z h2 h1
 exact ⟨⟨hb,cv,bs,kv,ps,hr.step s (n _ trivial),hH.step s (n _ trivial) (n _ trivial) (n _ trivial) (fun _=>n _ trivial) (fun _ _=>n _ trivial) (fun _ _=>n _ trivial) h0,hps.step s h0,hcls.step s (fun i z hz=>by rcases hz with h | h | h | h | h | h | h <;> subst h <;> first | exact n _ trivial | exact h0),hsw.step s (n _ trivial) (n _ trivial) h0,hk.step s (n _ trivial) h0⟩⟩
theorem IsRun.none {t t' : TW} {rb:Nat} {r:RunS} (h:IsRun t rb r) (s:Step No t t'):IsRun t' rb r:=h.step s (fun _ h=>h.elim) id
def rAct (r:RunS) (p:Pick):RunS × Bool:=if p.kind = 0 then clientStep r p.who else if p.kind = 1 then sweepStepR r else if p.kind = 2 then (rTick r p.by_,true) else (r,false)
theorem rAct_n (r:RunS) (p:Pick):(rAct r p).1.n = r.n:=by
 unfold rAct
 split
 ·unfold clientStep
  split
  ·rfl
  split
  ·rfl
  split
  ·exact (rPre_h _ _ _).2.1
  split <;> exact (rPre_h _ _ _).2.1
 split
 ·unfold sweepStepR rSwMove
  split
  ·rfl
  dsimp only
  split <;> exact (rSwBeg_h r).2.1
 split <;> rfl
theorem run_Step {rb:Nat} {r:RunS} (p:Pick) (t:TW) (hR:IsRun t rb r) (k:RunOk r) (hb:0 ≤ p.by_ ∧ p.by_ ≤ 18446744073709551615):Cal 23 [.pointer (some ⟨rb,0,none⟩),.agg (pickC p).toArray] t RT (fun v t' => v = .bool (runStep r p).2 ∧ IsRun t' rb (runStep r p).1):=by
 have hn:=k.nn
 refine Cal.en Tryz.func23 rfl Tryz.ntmps23<|WC.rs<|WL.e (Ef.bx (.loc 3) (cs:=[.int .i64 p.kind,.int .i64 p.who,.int .u64 p.by_]) rfl) ?_
 rintro _ t1 ⟨b3,rfl,s1,hb3,nb3,mb3⟩
 have hR:=IsRun.none hR s1
 refine WL.a rfl<|WL.go<|WC.rs<|WL.a rfl<|WL.go ?_
 refine WC.seqJ (σ:=Unit) (fun _ t' => Bk t' b3 [.int .i64 p.kind,.int .i64 p.who,.int .u64 p.by_] 78 (.loc 3) ∧ IsRun t' rb (rAct r p).1 ∧ True) (fun _=>[(0,.pointer (some ⟨rb,0,none⟩)),(4,.bool false),(5,.bool (rAct r p).2)]) ?_ ?_
 ·refine WC.rs<|WL.q 0 rfl fa78_0<|WL.r (Rd.ld rfl sc3 (hb3.cell rfl))<|WL.go<|WC.block<|WC.rs<|WL.f (Fr.bo rfl rfl BO.eq)<|WL.a rfl<|WL.go ?_
  refine WC.condS rfl (fun hcond8=>?_) (fun hcond8=>?_)
  focus
   refine WC.rg<|WL.m rfl<|WL.q 1 rfl fa78_1<|WL.r (Rd.ld rfl sc3 (hb3.cell rfl))<|WL.e (Ef.call rfl en44 (run_clientA p.who _ hR k) (fun _ h=>h)) ?_
   rintro _ t2 ⟨s2,rfl,hR⟩
   have hb3:=hb3.step s2 (fun h=>h)
   refine WL.a rfl<|WL.nil<|WQ.bn ?_
   have ea:rAct r p = clientStep r p.who:=by { unfold rAct; rw [if_pos (dcT hcond8)] }
   have hI:IsRun t2 rb (rAct r p).1:=by { rw [ea]; exact hR }
  rotate_left
  focus
   refine WC.rs<|WL.f (Fr.bo rfl rfl BO.eq)<|WL.a rfl<|WL.go ?_
   refine WC.condS rfl (fun hcond14=>?_) (fun hcond14=>?_)
   focus
    refine WC.rg<|WL.m rfl<|WL.e (Ef.call rfl en45 (run_sweepA _ hR k) (fun _ h=>h)) ?_
    rintro _ t3 ⟨s3,rfl,hR⟩
    have hb3:=hb3.step s3 (fun h=>h)
    refine WL.a rfl<|WL.nil<|WQ.bn ?_
    have ea:rAct r p = sweepStepR r:=by { unfold rAct; rw [if_neg (dcF hcond8),if_pos (dcT hcond14)] }
    have hI:IsRun t3 rb (rAct r p).1:=by { rw [ea]; exact hR }
   rotate_left
   focus
    refine WC.rs<|WL.f (Fr.bo rfl rfl BO.eq)<|WL.a rfl<|WL.go ?_
    refine WC.condS rfl (fun hcond18=>?_) (fun hcond18=>?_)
    focus
     refine WC.rs<|WL.m rfl<|WL.q 2 rfl fa78_2<|WL.r (Rd.ld rfl sc22 (hb3.cell rfl))<|WL.e (Ef.call rfl en46 (run_tickA p.by_ _ hR k hb) (fun _ h=>h)) ?_
     rintro _ t4 ⟨s4,hR⟩
     have hb3:=hb3.step s4 (fun h=>h)
     refine WL.go<|WC.rg<|WL.a rfl<|WL.nil<|WQ.bn ?_
     have ea:rAct r p = (rTick r p.by_,true):=by { unfold rAct; rw [if_neg (dcF hcond8),if_neg (dcF hcond14),if_pos (dcT hcond18)] }
     have hI:IsRun t4 rb (rAct r p).1:=by { rw [ea]; exact hR }
    rotate_left
    focus
     refine WC.skip<|WQ.bn ?_
     have ea:rAct r p = (r,false):=by { unfold rAct; rw [if_neg (dcF hcond8),if_neg (dcF hcond14),if_neg (dcF hcond18)] }
     have hI:IsRun t1 rb (rAct r p).1:=by { rw [ea]; exact hR }
  all_goals
   exact WQ.join () ⟨rfl,rfl,by rw [ea]; rfl,trivial⟩ ⟨hb3,hI,trivial⟩
 rintro _ t5 ⟨hb3,hR2,_⟩
 obtain ⟨hb,cv,bs,kv,ps,hr,hH,hps,hcls,hsw,hk⟩:=hR2.out
 have en:=rAct_n r p
 refine WC.rs<|WL.m rfl<|WL.f (Fr.ncP rfl)<|WL.q 4 rfl fa107_4<|WL.r (Rd.ld rfl sc3 (hr.cell rfl))<|WL.f (Fr.bo rfl rfl (BO.add (by omega) (by omega)))<|WL.f (Fr.ncP rfl)<|WL.q 4 rfl fa107_4<|WL.e0 (Ef.T [.int .i64 (((rAct r p).1.n) + 1)] rfl rfl hr sz3 (.inr trivial)) ?_
 rintro _ t6 ⟨u6,s6,hr'⟩
 have hr:Bk t6 rb [.pointer (some ⟨hb,0,none⟩),cv,.pointer (some ⟨bs,0,none⟩),.int .i64 (rAct r p).1.sweep,.int .i64 (((rAct r p).1.n) + 1),.int .i64 (rAct r p).1.ticks,.int .i64 (rAct r p).1.sweeps,kv] _ _:=hr'
 clear hr'
 obtain ⟨hH,hps⟩:=Q2 (hH.n s6) (hps.n s6)
 have hcls:=hcls.step s6 (fun i z hz e=>by subst e; rcases hz.cli with e | e <;> cases e)
 obtain ⟨hk,hsw⟩:=Q2 (hk.n s6) (hsw.step' s6 ⟨nofun,nofun,nofun⟩)
 exact WL.go<|WC.rs<|WL.m rfl<|WL.a rfl<|WL.go<|WC.ret<|WQ.ret rfl (.tmp rfl .nil) (⟨rfl,⟨hb,cv,bs,kv,ps,hr,hH,hps,hcls,hsw,hk⟩⟩)
variable {c:Cfg} {h:HallS} {k:Nat}
structure WI1 (c:Cfg) (p:WProc):Prop where
 s:(p.s:Int) < c.stripes
 who:p.who ≤ 8
 t:0 ≤ p.time.now ∧ p.time.now ≤ 18446744073709551615
 act:∀ x,p.act = .wr x → 0 ≤ x.ttl ∧ x.ttl ≤ 18446744073709551615
theorem WI1.put {p:WProc} (w:WI1 c p) (a:Nat) (b e:Int):WI1 c { p with at_:=a,placed:=b,err:=e }:=⟨w.s,w.who,w.t,w.act⟩
theorem wDo_I (g:HI c h k) {p:WProc} (w:WI1 c p) (i:Nat):HI c (wDo h p i).1 (k + 1) ∧ WI1 c (wDo h p i).2:=by
 rcases i with _ | _ | _ | _ | _ | _ | i
 ·exact ⟨g.lock w.who p.s,w⟩
 ·exact ⟨g.begin_ _ _,w⟩
 ·exact ⟨g.take _,w.s,w.who,g.tn,w.act⟩
 ·cases e:p.act with
  | bad=>
   simp only [wDo,e]
   exact ⟨g.mono (Nat.le_succ _),w⟩
  | wr x=>
   simp only [wDo,e]
   exact ⟨g.write _ _ _ _,w.s,w.who,w.t,by rw [← e]; exact w.act⟩
  | sw=>
   simp only [wDo,e]
   exact ⟨g.sweep _ _ _,w.s,w.who,w.t,by rw [← e]; exact w.act⟩
 ·exact ⟨g.publish _ _,w⟩
 ·exact ⟨g.end_ _ _,w⟩
 exact ⟨g.unlock _ _,w⟩
theorem wStep_I (g:HI c h k) {p:WProc} (w:WI1 c p) (pos:Int):HI c (wStep h p pos).1 (k + 1) ∧ WI1 c (wStep h p pos).2:=by
 unfold wStep
 split
 ·exact ⟨g.mono (Nat.le_succ _),w⟩
 split
 ·exact ⟨g.mono (Nat.le_succ _),w.s,w.who,w.t,w.act⟩
 have w1:WI1 c (if p.at_ = 2 then { p with placed:=pos } else p):=by
  split
  ·exact ⟨w.s,w.who,w.t,w.act⟩
  exact w
 obtain ⟨g2,w2⟩:=wDo_I g w1 p.at_
 exact ⟨g2,w2.s,w2.who,w2.t,w2.act⟩
theorem HI.lt (g:HI c h k) {s:Nat} (hs:(s:Int) < c.stripes):s < h.strs.length:=by
 have:=g.len
 omega
theorem w_ok (g:HI c h k) (hk:k ≤ 10000) (hc:c.stripes ≤ 8) (hq:c.queue ≤ 16) {p:WProc} (w:WI1 c p):WOk h p where
 ha:=by have:=g.al; omega
 hs:=g.lt w.s
 hs8:=by have:=g.len; omega
 hw:=by have:=w.who; omega
 hc0:=(g.st p.s).c0.1
 hc1:=by have:=(g.st p.s).c0.2; omega
 hl0:=(g.st p.s).l0.1
 hl1:=by have:=(g.st p.s).l0.2; omega
 ht0:=g.tn
 ht1:=g.sq
 hp0:=w.t.1
 hp1:=w.t.2
 hks:=by have:=g.fk p.s; omega
 hok:=fun i _=>by have:=g.fq p.s i; constructor <;> omega
 act:=by
  have hb:=(g.st p.s).bk.2
  cases e:p.act with
  | bad=>trivial
  | wr x=>exact ⟨⟨hb.1,by have:=hb.2.1; omega,fun e he=>by have:=hb.2.2 e he; omega⟩,w.act x e⟩
  | sw=>exact hb.mono (by omega) (by omega)
variable {c:Cfg} {h:HallS} {k:Nat}
theorem mGo_len:∀ (f:Nat) (l:List (List Event)) (a:List Nat) (o:List Event),(mGo f l a o).length ≤ o.length + f
 | 0,_,_,_=>Nat.le_refl _
 | f + 1,l,a,o=>by
  simp only [mGo]
  cases mBest l a l.length with
  | none=>exact Nat.le_add_right _ _
  | some j=>
   simp only
   refine Nat.le_trans (mGo_len f l _ _) ?_
   have:(mHd l a j).toList.length ≤ 1:=by cases mHd l a j <;> simp
   simp only [List.length_append]
   omega
theorem mRem_le:∀ (l:List (List Event)) (a:List Nat) (m:Nat),(∀ x ∈ l,x.length ≤ m) → mRem l a ≤ l.length * m
 | [],_,_,_=>by simp [mRem]
 | x :: l,[],m,_=>by simp [mRem]
 | x :: l,a :: bs', m,h=>by
  have h1:=h x (List.mem_cons_self ..)
  have h2:=mRem_le l bs' m (fun y hy=>h y (List.mem_cons_of_mem _ hy))
  simp only [mRem,List.length_cons,Nat.succ_mul]
  omega
theorem mTot_m {l:List (List Event)} {m:Nat} (h:∀ x ∈ l,x.length ≤ m):mTot l ≤ l.length * m:=mRem_le l _ m h
theorem fMerge_len {l:List (List Event)} {m:Nat} (h:∀ x ∈ l,x.length ≤ m):(fMerge l).length ≤ l.length * m + 1:=by
 have h1:=mGo_len (mTot l + 1) l (List.replicate l.length 0) []
 have h2:=mTot_m h
 unfold fMerge
 simp only [List.length_nil] at h1
 omega
def polls (x:Opr):Bool:=!badOp x && decide (x.kind = 8)
theorem hActs_mem {x:Opr} {s n:Nat} {a:HAct} (h:a ∈ hActs x s n):match a with
  | .lock s' => s' < n ∨ s' = s
  | .unlock s' => s' = s
  | .drain s' => s' < n ∧ polls x = true
  | .last s' => s' < n ∧ polls x = true
  | _=>True:=by
 unfold hActs at h
 split at h
 ·simp only [List.mem_cons,List.not_mem_nil,or_false] at h
  subst h
  trivial
 ·rename_i hb
  split at h
  ·rename_i h8
   have hp:polls x = true:=by
    unfold polls
    rw [decide_eq_true h8]
    simpa using hb
   simp only [List.mem_append,List.mem_map,List.mem_range,List.mem_cons,List.not_mem_nil,or_false] at h
   rcases h with ((⟨i,hi,rfl⟩ | rfl) | ⟨i,hi,rfl⟩) | ⟨i,hi,rfl⟩
   ·exact .inl hi
   ·trivial
   ·exact ⟨hi,hp⟩
   ·exact ⟨hi,hp⟩
  ·split at h
   ·simp only [List.mem_cons,List.not_mem_nil,or_false] at h
    subst h
    trivial
   ·simp only [List.mem_cons,List.not_mem_nil,or_false] at h
    rcases h with rfl | rfl | rfl | rfl
    ·exact .inr rfl
    ·trivial
    ·trivial
    ·rfl
structure DI (c:Cfg) (p:HProc):Prop where
 who:p.who < 8
 n:(p.n:Int) = c.stripes
 s:(p.s:Int) < c.stripes
 acts:p.acts = hActs p.op p.s p.n
 all:polls p.op = true → p.all.length = p.n
 al:p.all.length ≤ p.n
 e16:∀ x ∈ p.all,x.length ≤ 16
 ev:p.events.length ≤ 200
theorem d_new (who:Nat) (hw:who < 8) (x:Opr) (s n:Nat) (hn:(n:Int) = c.stripes) (hs:(s:Int) < c.stripes):DI c (hNewP who x s n):=by
 refine ⟨hw,hn,hs,rfl,fun hp=>?_,?_,?_,by simp [hNewP]⟩
 ·have:badOp x = false ∧ x.kind = 8:=by
   have h:polls x = true:=hp
   unfold polls at h
   simpa using h
  simp [hNewP,this]
 ·simp only [hNewP]
  split <;> simp
 simp only [hNewP]
 split
 ·intro y hy
  rw [List.eq_of_mem_replicate hy]
  simp
 intro y hy
 cases hy
theorem hAct_I (g:HI c h k) (hq0:0 ≤ c.queue) (hq:c.queue ≤ 16) (hc8:c.stripes ≤ 8) (m:MineS) {p:HProc} (d:DI c p) (a:HAct):HI c (hAct h m p a).1 (k + 1) ∧ DI c (hAct h m p a).2.2.1:=by
 cases a with
 | bad=>exact ⟨g.mono (Nat.le_succ _),⟨d.who,d.n,d.s,d.acts,d.all,d.al,d.e16,d.ev⟩⟩
 | shut=>exact ⟨g.shut _,⟨d.who,d.n,d.s,d.acts,d.all,d.al,d.e16,d.ev⟩⟩
 | look=>exact ⟨g.look _,⟨d.who,d.n,d.s,d.acts,d.all,d.al,d.e16,d.ev⟩⟩
 | watch=>
  simp only [hAct]
  split
  ·exact ⟨g.mono (Nat.le_succ _),⟨d.who,d.n,d.s,d.acts,d.all,d.al,d.e16,d.ev⟩⟩
  split
  ·exact ⟨g.mono (Nat.le_succ _),⟨d.who,d.n,d.s,d.acts,d.all,d.al,d.e16,d.ev⟩⟩
  exact ⟨g.watch _ _ _ _,d⟩
 | lock s=>exact ⟨g.lock (by have:=d.who; omega) s,d⟩
 | unlock s=>exact ⟨g.unlock _ s,d⟩
 | drain s=>
  refine ⟨g.drain hq0 _ s,⟨d.who,d.n,d.s,d.acts,fun hp=>by show (p.all.set s _).length = _; rw [List.length_set]; exact d.all hp,by show (p.all.set s _).length ≤ _; rw [List.length_set]; exact d.al,fun x hx=>?_,d.ev⟩⟩
  rcases mem_set hx with rfl | hx
  ·have:=(g.fq s p.who).2
   omega
  exact d.e16 x hx
 | last s=>
  refine ⟨g.unlock _ s,⟨d.who,d.n,d.s,d.acts,d.all,d.al,d.e16,?_⟩⟩
  simp only [hAct]
  split
  ·have h1:=fMerge_len d.e16
   have h2:=d.al
   have h3:=d.n
   have:p.all.length * 16 ≤ 8 * 16:=Nat.mul_le_mul_right _ (by omega)
   omega
  exact d.ev
theorem hdStep_I (g:HI c h k) (hq0:0 ≤ c.queue) (hq:c.queue ≤ 16) (hc8:c.stripes ≤ 8) (m:MineS) {p:HProc} (d:DI c p) (pos:Int):HI c (hdStep h m p pos).1 (k + 1) ∧ DI c (hdStep h m p pos).2.2:=by
 unfold hdStep
 split
 ·exact ⟨g.mono (Nat.le_succ _),d⟩
 cases e:p.acts[p.at_]? with
 | none=>exact ⟨g.mono (Nat.le_succ _),d⟩
 | some a=>
  obtain ⟨g2,d2⟩:=hAct_I g hq0 hq hc8 m d a
  exact ⟨g2,d2.who,d2.n,d2.s,d2.acts,d2.all,d2.al,d2.e16,d2.ev⟩
theorem d_ok (g:HI c h k) (hk:k ≤ 10000) (hc8:c.stripes ≤ 8) (hq:c.queue ≤ 16) {p:HProc} (d:DI c p) {a:HAct} (ha:p.acts[p.at_]? = some a):HOk h p a where
 ha:=by have:=g.al; omega
 hs8:=by have:=g.len; omega
 hw:=d.who
 hN:=by have:=d.n; omega
 act:=by
  have hm:=hActs_mem (d.acts ▸ List.mem_of_getElem? ha)
  have hn:∀ s:Nat,s < p.n → s < h.strs.length:=fun s hs=>g.lt (by have:=d.n; omega)
  have hl:∀ s:Nat,0 ≤ (hStr h s).latch ∧ (hStr h s).latch ≤ 1000:=fun s=>by
   have:=(g.st s).l0
   exact ⟨this.1,by omega⟩
  cases a with
  | bad=>trivial
  | shut=>trivial
  | look=>trivial
  | watch=>exact ⟨g.lt d.s,by have:=g.fk p.s; omega⟩
  | lock s=>
   rcases hm with hm | rfl
   ·exact hn s hm
   ·exact g.lt d.s
  | unlock s=>
   obtain rfl:s = p.s:=hm
   exact ⟨g.lt d.s,hl _⟩
  | drain s=>exact ⟨hn s hm.1,by have:=(g.fq s p.who).2; omega,by rw [d.all hm.2]; exact hm.1⟩
  | last s=>
   have h1:=mTot_m d.e16
   have h2:=d.al
   have h3:=d.n
   have:p.all.length * 16 ≤ 8 * 16:=Nat.mul_le_mul_right _ (by omega)
   exact ⟨hn s hm.1,(hl s).1,(hl s).2,by omega,by omega⟩
theorem d_pok (g:HI c h k) (hk:k ≤ 10000) (hc8:c.stripes ≤ 8) (hq:c.queue ≤ 16) {p:HProc} (d:DI c p):POk h (.d p):=by
 refine ⟨?_,fun s hs=>?_,fun a ha _=>d_ok g hk hc8 hq d ha⟩
 ·have:=hActs_len p.op p.s p.n
  have:=d.n
  rw [d.acts]
  omega
 unfold hdWaits at hs
 cases e:p.acts[p.at_]? with
 | none=>
  rw [e] at hs
  simp only at hs
  omega
 | some a=>
  rw [e] at hs
  have hm:=hActs_mem (d.acts ▸ List.mem_of_getElem? e)
  cases a with
  | lock s' =>
   have hs' : (s' : Int) = s:=hs
   obtain rfl:s' = s:=by omega
   rcases hm with hm | rfl
   ·exact g.lt (by have:=d.n; omega)
   exact g.lt d.s
  | _=>simp [hNeeds] at hs
variable {c:Cfg} {h:HallS} {k:Nat}
structure CI (c:Cfg):Prop where
 st:1 ≤ c.stripes ∧ c.stripes ≤ 8
 qu:1 ≤ c.queue ∧ c.queue ≤ 16
 re:0 ≤ c.retries ∧ c.retries ≤ 4
 ep:0 ≤ c.epochs ∧ c.epochs ≤ 18446744073709551615
theorem cI_of (h:cfgRight c = true) (h0:0 ≤ c.epochs) (h1:c.epochs ≤ 18446744073709551615):CI c:=by
 unfold cfgRight at h
 simp only [Bool.and_eq_true,decide_eq_true_eq] at h
 exact ⟨h.1.1.1.1,h.1.1.2,h.2,h0,h1⟩
theorem gfind_mem {κ β:Type} [DecidableEq κ]:∀ (l:List (κ × β)) (a:κ) (i:Nat) {j:Nat} {x:β},gfind l a i = some (j,x) → ∃ q ∈ l,q.2 = x
 | [],_,_,_,_,h=>by cases h
 | q :: l,a,i,j,x,h=>by
  unfold gfind at h
  split at h
  ·obtain ⟨_,rfl⟩:=Prod.mk.inj (Option.some.inj h)
   exact ⟨q,List.mem_cons_self ..,rfl⟩
  ·obtain ⟨q', h1,h2⟩:=gfind_mem l a (i + 1) h
   exact ⟨q', List.mem_cons_of_mem _ h1,h2⟩
theorem gget_mem {κ β:Type} [DecidableEq κ] {l:List (κ × β)} {a:κ} {x:β} (h:gget l a = some x):∃ q ∈ l,q.2 = x:=by
 unfold gget at h
 cases e:gfind l a 0 with
 | none=>rw [e] at h; cases h
 | some q=>
  rw [e] at h
  obtain rfl:q.2 = x:=Option.some.inj h
  exact gfind_mem l a 0 e
theorem gput_mem {κ β:Type} [DecidableEq κ] {l:List (κ × β)} {a:κ} {x:β} {q:κ × β} (h:q ∈ gput l a x):q = (a,x) ∨ q ∈ l:=by
 unfold gput at h
 split at h
 ·rcases List.mem_or_eq_of_mem_set h with h | h
  ·exact .inr h
  exact .inl h
 rcases List.mem_append.1 h with h | h
 ·exact .inr h
 exact .inl (List.mem_singleton.1 h)
theorem stripesIn_mem {users:List ByteArray} {n:Int} (hn:1 ≤ n) {x:Int} (h:x ∈ stripesIn users n):∃ s:Nat,x = (s:Int) ∧ (s:Int) < n:=by
 unfold stripesIn at h
 obtain ⟨s,hs,rfl⟩:=List.mem_map.1 h
 obtain ⟨_,h2⟩:=List.mem_filter.1 hs
 obtain ⟨u,_,hu⟩:=List.any_eq_true.1 h2
 have:=dcT hu
 exact ⟨s,rfl,by have:=(stripeOf_lo u hn).2; omega⟩
theorem stripesIn_len (users:List ByteArray) (n:Int):(stripesIn users n).length ≤ 8:=by
 unfold stripesIn
 rw [List.length_map]
 exact Nat.le_trans (List.length_filter_le _ _) (by rw [List.length_range]; exact Nat.le_refl _)
structure RI (c:Cfg) (p:RProc) (k:Nat):Prop where
 who:p.who < 8
 ul:p.users.length ≤ 8
 us:∀ u ∈ p.users,u.size ≤ 16
 of_:p.of_ = c.stripes
 st:p.stripes = stripesIn p.users c.stripes
 ph:p.phase ≤ 8
 at_:p.stripes ≠ [] → p.at_ < p.stripes.length
 ep:p.epochs.length = p.stripes.length
 er:∀ e ∈ p.epochs,0 ≤ e ∧ e ≤ (k:Int)
 se:∀ q ∈ p.seen,BkI q.2 k
 tr:0 ≤ p.tries ∧ p.tries ≤ 4
 v:p.phase ≠ 8 → p.values = []
 vl:p.values.length ≤ 8
theorem RI.mono {p:RProc} (r:RI c p k) {k' : Nat} (hk:k ≤ k'):RI c p k' := ⟨r.who,r.ul,r.us,r.of_,r.st,r.ph,r.at_,r.ep,fun e he=>⟨(r.er e he).1,by have:=(r.er e he).2; omega⟩,fun q hq=>(r.se q hq).mono hk,r.tr,r.v,r.vl⟩
theorem pos_len {α:Type} {l:List α} (h:l ≠ []):0 < l.length:=List.length_pos_iff.2 h
theorem rBegin_I {p:RProc} (r:RI c p k) (hv:p.values = []) {t:Int} (ht:0 ≤ t ∧ t ≤ 4):RI c (rBegin { p with tries:=t }) k:=
 ⟨r.who,r.ul,r.us,r.of_,r.st,by show (0:Nat) ≤ 8; decide,pos_len,by simp [rBegin],fun e he=>by
  have:e = 0:=List.eq_of_mem_replicate he
  subst this
  exact ⟨Int.le_refl _,by omega⟩,fun q hq=>(by cases hq),ht,fun _=>hv,r.vl⟩
theorem usersOf_I {x:Opr}:(rUsers x).length ≤ 8 ∧ ∀ u ∈ rUsers x,u.size ≤ 16:=by
 unfold rUsers
 split
 ·exact ⟨by simp,fun u h=>by cases h⟩
 rename_i hb
 have hb:badOp x = false:=by simpa using hb
 unfold usersOf
 unfold badOp at hb
 split
 ·rename_i h4
  rw [if_neg (by omega),if_neg (by omega),if_pos (by omega)] at hb
  refine ⟨by simp,fun u hu=>?_⟩
  rw [List.mem_singleton.1 hu]
  have:nameOk x.user = true:=by simpa using hb
  unfold nameOk at this
  simp only [Bool.and_eq_true,decide_eq_true_eq] at this
  exact this.2
 split
 ·rename_i h5
  rw [if_neg (by omega),if_neg (by omega),if_neg (by omega),if_pos h5] at hb
  obtain ⟨hb1,hb2⟩:=Bool.or_eq_false_iff.1 hb
  have hb2:(decide (1 ≤ (x.users.length:Int) ∧ (x.users.length:Int) ≤ 8)) = true:=by simpa using hb2
  have hb2:=dcT hb2
  refine ⟨by omega,fun u hu=>?_⟩
  have:nameOk u = true:=by
   have:=List.any_eq_false.1 hb1 u hu
   simpa using this
  unfold nameOk at this
  simp only [Bool.and_eq_true,decide_eq_true_eq] at this
  exact this.2
 exact ⟨by simp,fun u h=>by cases h⟩
theorem r_new (ci:CI c) (who:Nat) (hw:who < 8) (x:Opr):RI c (rNew who x c.stripes c.retries) k:=by
 have hu:=usersOf_I (x:=x)
 have r0:RI c (⟨who,rUsers x,c.stripes,stripesIn (rUsers x) c.stripes,0,0,c.retries,List.replicate (stripesIn (rUsers x) c.stripes).length 0,false,false,[],zTime,0,-1,0,[]⟩:RProc) k:=
  ⟨hw,hu.1,hu.2,rfl,rfl,by show (0:Nat) ≤ 8; decide,pos_len,by simp,fun e he=>by
   have:e = 0:=List.eq_of_mem_replicate he
   subst this
   exact ⟨Int.le_refl _,by omega⟩,fun q hq=>(by cases hq),ci.re,fun _=>rfl,Nat.zero_le _⟩
 exact rBegin_I r0 rfl ci.re
theorem RI.next {p:RProc} (r:RI c p k) (hv:p.values = []) {ph:Nat} (hp:ph ≤ 8):RI c (rNext p ph).1 k ∧ (rNext p ph).1.values = []:=by
 unfold rNext
 split
 ·rename_i h1
  exact ⟨⟨r.who,r.ul,r.us,r.of_,r.st,r.ph,fun _=>h1,r.ep,r.er,r.se,r.tr,fun _=>hv,r.vl⟩,hv⟩
 exact ⟨⟨r.who,r.ul,r.us,r.of_,r.st,hp,pos_len,r.ep,r.er,r.se,r.tr,fun _=>hv,r.vl⟩,hv⟩
theorem RI.answer {p:RProc} (r:RI c p k) (hv:p.values = []) {ph:Nat} (hp:ph = 8):RI c { rAnswer p with phase:=ph } k:=by
 subst hp
 unfold rAnswer
 split
 ·exact ⟨r.who,r.ul,r.us,r.of_,r.st,Nat.le_refl _,r.at_,r.ep,r.er,r.se,r.tr,fun h=>absurd rfl h,Nat.zero_le _⟩
 exact ⟨r.who,r.ul,r.us,r.of_,r.st,Nat.le_refl _,r.at_,r.ep,r.er,r.se,r.tr,fun h=>absurd rfl h,by show (p.values ++ p.users.map (rAns p)).length ≤ 8; rw [hv]; simpa using r.ul⟩
theorem RI.answer' {p:RProc} (r:RI c p k) (hv:p.values = []) (hp:p.phase = 8):RI c (rAnswer p) k:=by
 have:=r.answer hv hp.symm.symm
 have e:{ rAnswer p with phase:=p.phase } = rAnswer p:=by unfold rAnswer; split <;> rfl
 rwa [e] at this
theorem RI.judge {p:RProc} (r:RI c p k) (hv:p.values = []):RI c (rJudge p) k:=by
 unfold rJudge
 split
 ·exact r.answer hv rfl
 split
 ·exact ⟨r.who,r.ul,r.us,r.of_,r.st,by show (4:Nat) ≤ 8; decide,r.at_,r.ep,r.er,r.se,r.tr,fun _=>hv,r.vl⟩
 rename_i h2
 refine rBegin_I r hv ?_
 have:=r.tr
 omega
theorem rNext_ph (p:RProc) (ph:Nat) (h:(rNext p ph).2 = true):(rNext p ph).1.phase = ph:=by
 unfold rNext at h ⊢
 split
 ·rename_i h1
  rw [if_pos h1] at h
  cases h
 rfl
theorem rDo_I (g:HI c h k) {p:RProc} (r:RI c p k) (pos:Int) (hn:p.phase ≠ 8):HI c (rDo h p pos).1 (k + 1) ∧ RI c (rDo h p pos).2 (k + 1):=by
 have hv:=r.v hn
 have r1:=r.mono (Nat.le_succ k)
 have hc:=fun s=>(g.st s).c0
 have look:HI c (rDo2 h p pos).1 (k + 1) ∧ (p.phase ≤ 6 → RI c (rDo2 h p pos).2 (k + 1)):=
  ⟨g.look _,fun h6=>⟨r1.who,r1.ul,r1.us,r1.of_,r1.st,by show p.phase + 1 ≤ 8; omega,r1.at_,r1.ep,r1.er,r1.se,r1.tr,fun _=>hv,r1.vl⟩⟩
 unfold rDo
 split
 ·refine ⟨g.epoch _ _,(RI.next (p:={ p with epochs:=p.epochs.set p.at_ (hStr h (rS p)).cv,spent:=_ }) ⟨r1.who,r1.ul,r1.us,r1.of_,r1.st,r1.ph,r1.at_,by show (p.epochs.set _ _).length = _; rw [List.length_set]; exact r1.ep,fun e he=>?_,r1.se,r1.tr,r1.v,r1.vl⟩ hv (by decide)).1⟩
  rcases mem_set he with rfl | he
  ·exact ⟨(hc _).1,by have:=(hc (rS p)).2; omega⟩
  exact r1.er e he
 ·refine ⟨g.snap _ _,(RI.next (p:={ p with seen:=gput p.seen (rS p:Int) (hStr h (rS p)).snap }) ⟨r1.who,r1.ul,r1.us,r1.of_,r1.st,r1.ph,r1.at_,r1.ep,r1.er,fun q hq=>?_,r1.tr,r1.v,r1.vl⟩ hv (by decide)).1⟩
  rcases gput_mem hq with rfl | hq
  ·exact (g.st _).sn.mono (Nat.le_succ _)
  exact r1.se q hq
 ·rename_i e
  exact ⟨look.1,look.2 (by omega)⟩
 ·refine ⟨g.epoch _ _,?_⟩
  have r2:RI c { p with valid:=p.valid && decide (p.epochs.getD p.at_ 0 = (hStr h (rS p)).cv ∧ p.epochs.getD p.at_ 0 % 2 = 0 ∧ p.epochs.getD p.at_ 0 < evenB h.cfg.epochs) } (k + 1):=⟨r1.who,r1.ul,r1.us,r1.of_,r1.st,r1.ph,r1.at_,r1.ep,r1.er,r1.se,r1.tr,r1.v,r1.vl⟩
  have r3:=r2.next hv (ph:=8) (Nat.le_refl _)
  show RI c (if _ then _ else _) _
  split
  ·exact r3.1.judge r3.2
  exact r3.1
 ·exact ⟨g.lock (by have:=r.who; omega) _,(r1.next hv (by decide)).1⟩
 ·rename_i e
  exact ⟨look.1,look.2 (by omega)⟩
 ·refine ⟨g.read _ _,(RI.next (p:={ p with seen:=gput p.seen (rS p:Int) (hStr h (rS p)).book }) ⟨r1.who,r1.ul,r1.us,r1.of_,r1.st,r1.ph,r1.at_,r1.ep,r1.er,fun q hq=>?_,r1.tr,r1.v,r1.vl⟩ hv (by decide)).1⟩
  rcases gput_mem hq with rfl | hq
  ·exact (g.st _).bk.mono (Nat.le_succ _)
  exact r1.se q hq
 ·refine ⟨g.unlock _ _,?_⟩
  have r3:=r1.next hv (ph:=8) (Nat.le_refl _)
  show RI c (if _ then _ else _) _
  split
  ·rename_i e
   exact r3.1.answer' r3.2 (rNext_ph _ _ e)
  exact r3.1
 exact ⟨g.mono (Nat.le_succ _),r1⟩
theorem rStep_I (g:HI c h k) {p:RProc} (r:RI c p k) (pos:Int):HI c (rStep h p pos).1 (k + 1) ∧ RI c (rStep h p pos).2 (k + 1):=by
 unfold rStep
 have r1:=r.mono (Nat.le_succ k)
 split
 ·exact ⟨g.mono (Nat.le_succ _),r1⟩
 rename_i he
 split
 ·rename_i hs
  exact ⟨g.mono (Nat.le_succ _),r1.who,r1.ul,r1.us,r1.of_,r1.st,Nat.le_refl _,r1.at_,r1.ep,r1.er,r1.se,r1.tr,fun h=>absurd rfl h,Nat.zero_le _⟩
 refine rDo_I g r pos fun e=>he ?_
 unfold rEnabled
 rw [decide_eq_true e]
 rfl
theorem r_at (ci:CI c) (g:HI c h k) {p:RProc} (r:RI c p k) (hs:p.stripes ≠ []):∃ s:Nat,p.stripes[p.at_]? = some (s:Int) ∧ s < h.strs.length:=by
 have hlt:=r.at_ hs
 obtain ⟨s,e,h2⟩:=stripesIn_mem (x:=p.stripes[p.at_]) ci.st.1 (by rw [← r.st]; exact List.getElem_mem hlt)
 exact ⟨s,by rw [List.getElem?_eq_getElem hlt,e],g.lt h2⟩
theorem bookOk_I {b:Book} (hb:BkI b k) (hk:k ≤ 10000):BookOk b:=⟨hb.2.1,by have:=hb.2.2.1; omega,fun e he=>by have:=hb.2.2.2 e he; omega⟩
def RE (p:RProc):Prop:=p.stripes = [] → p.phase = 0 ∨ p.phase = 8
theorem rJudge_stripes (p:RProc):(rJudge p).stripes = p.stripes:=by
 unfold rJudge rAnswer rBegin
 split
 ·split <;> rfl
 split <;> rfl
theorem rAnswer_stripes (p:RProc):(rAnswer p).stripes = p.stripes:=by
 unfold rAnswer
 split <;> rfl
theorem rDo_stripes (h:HallS) (p:RProc) (pos:Int):(rDo h p pos).2.stripes = p.stripes:=by
 unfold rDo
 split
 ·exact (rNext_same _ _).2
 ·exact (rNext_same _ _).2
 ·rfl
 ·show RProc.stripes (if _ then _ else _) = _
  split
  ·rw [rJudge_stripes]
   exact (rNext_same _ _).2
  exact (rNext_same _ _).2
 ·exact (rNext_same _ _).2
 ·rfl
 ·exact (rNext_same _ _).2
 ·show RProc.stripes (if _ then _ else _) = _
  split
  ·rw [rAnswer_stripes]
   exact (rNext_same _ _).2
  exact (rNext_same _ _).2
 rfl
theorem RE.step {p:RProc} (r:RE p) (h:HallS) (pos:Int):RE (rStep h p pos).2:=by
 unfold rStep
 split
 ·exact r
 split
 ·exact fun _=>.inr rfl
 rename_i hs
 intro e
 rw [rDo_stripes] at e
 exact absurd e hs
theorem re_new (who:Nat) (x:Opr) (n t:Int):RE (rNew who x n t):=fun _=>.inl rfl
theorem r_pok (ci:CI c) (g:HI c h k) (hk:k ≤ 10000) {p:RProc} (r:RI c p k) (re:RE p):POk h (.r p):=by
 refine ⟨fun e=>?_,fun s hs=>?_,fun he hs=>⟨by have:=g.al; omega,by have:=g.len; have:=ci.st; omega,by have:=r.who; omega,r.ph,r.at_ hs,by rw [r.st]; exact stripesIn_len _ _,r_at ci g r hs,r.ep,fun e h=>⟨(r.er e h).1,by have:=(r.er e h).2; omega⟩,⟨r.tr.1,by have:=r.tr.2; omega⟩,by rw [g.cfg]; exact ci.ep,fun s _=>⟨(g.st s).l0.1,by have:=(g.st s).l0.2; omega⟩,⟨by have:=r.ul; omega,fun u hu=>by have:=r.us u hu; omega,by rw [r.of_]; have:=ci.st; omega,fun x=>?_,r.v fun e=>?_⟩⟩⟩
 ·by_cases hs:p.stripes = []
  ·have:=re hs
   omega
  exact r.at_ hs
 ·unfold rWaits at hs
  split at hs
  ·by_cases e:p.stripes = []
   ·rw [e] at hs
    simp at hs
   obtain ⟨s', h1,h2⟩:=r_at ci g r e
   rw [List.getD_eq_getElem?_getD,h1] at hs
   have:(s' : Int) = s:=hs
   obtain rfl:s' = s:=by omega
   exact h2
  omega
 ·cases e:gget p.seen x with
  | none=>exact bookOk_I (bkI_no 0) (Nat.zero_le _)
  | some b=>
   obtain ⟨q,hq,rfl⟩:=gget_mem e
   exact bookOk_I (r.se q hq) hk
 unfold rEnabled at he
 rw [decide_eq_true e] at he
 cases he
def clN (s:Script) (k:Nat):List ClientS:=(s.clients.take k).map fun l=>⟨l,0,[],none,-1⟩
theorem clN_succ {s:Script} {k:Nat} (h:k < s.clients.length):clN s (k + 1) = clN s k ++ [⟨s.clients[k],0,[],none,-1⟩]:=by
 unfold clN
 rw [List.take_succ_eq_append_getElem h,List.map_append]
 rfl
theorem clN_len {s:Script} {k:Nat} (h:k ≤ s.clients.length):(clN s k).length = k:=by
 simp [clN,h]
theorem Cls.add {t:TW} {ps:List Nat} {cs:List ClientS} {b:Nat} {c:ClientS} (h:Cls t ps cs) (hc:IsClient t cs.length b c):Cls t (ps ++ [b]) (cs ++ [c]):=by
 refine ⟨by simp [h.1],fun i b2 c2 h1 h2=>?_⟩
 have hi:=(List.getElem?_eq_some_iff.1 h2).1
 rw [List.length_append,List.length_cons,List.length_nil] at hi
 rcases Nat.lt_or_eq_of_le (show i ≤ cs.length by omega) with hi | hi
 ·rw [List.getElem?_append_left hi] at h2
  rw [List.getElem?_append_left (by rw [h.1]; exact hi)] at h1
  exact h.2 i b2 c2 h1 h2
 subst hi
 rw [List.getElem?_append_right (Nat.le_refl _),Nat.sub_self] at h2
 rw [List.getElem?_append_right (by rw [h.1]; exact Nat.le_refl _),h.1,Nat.sub_self] at h1
 obtain rfl:=Option.some.inj h1
 obtain rfl:=Option.some.inj h2
 exact hc
theorem checkS_right {s:Script} (h:checkS s = 0):cfgRight s.cfg = true:=by
 unfold checkS at h
 split at h
 ·cases h
 cases e:cfgRight s.cfg
 ·simp_all
 rfl
theorem run_New {s:Script} {cv pv:Value} (t:TW) (hc:Sl t (kSl kOp) cv s.clients) (hp:Sl t kPick pv s.picks) (h1:s.clients.length ≤ 1000000) (h2:s.picks.length ≤ 1000000) (h3:∀ l ∈ s.clients,l.length ≤ 1000000) (he0:0 ≤ s.cfg.epochs) (he1:s.cfg.epochs ≤ 18446744073709551615):Cal 22 [.agg (cfgC s.cfg ++ [cv,pv]).toArray] t (fun z=>z = .sweep 0) (fun v t' => if checkS s = 0 then ∃ rb fp,v = .tuple #[.pointer (some ⟨rb,0,none⟩),.int .i64 0] ∧ t.w.heap.size ≤ rb ∧ IsRun t' rb (runNew s fp) else v = .tuple #[.pointer none,.int .i64 (checkS s)]):=by
 obtain ⟨Ac,cc,rfl,_⟩:=hc.form
 obtain ⟨Ap,cp,rfl,_⟩:=hp.form
 have hz:t.w.heap.size ≤ t.w.heap.size:=Nat.le_refl _
 refine Cal.en Tryz.func22 rfl Tryz.ntmps22<|WC.rs<|WL.e (Ef.bx (.loc 1) (cs:=[.int .i64 s.cfg.stripes,.int .i64 s.cfg.sessions,.int .i64 s.cfg.queue,.int .i64 s.cfg.watches,.int .i64 s.cfg.retries,.int .u64 s.cfg.epochs,.int .u64 s.cfg.start,.slice Ac s.clients.length cc,.slice Ap s.picks.length cp]) rfl) ?_
 rintro _ t1 ⟨b1,rfl,s1,hb1,nb1,mb1⟩
 obtain ⟨hc,hp,hz⟩:=Q3 (hc.n s1) (hp.n s1) (Nat.le_trans hz s1.size)
 refine WL.a rfl<|WL.a rfl<|WL.go<|WC.seq<|WC.rs<|WL.r (Rd.la rfl ag28 (hb1.at (vs:=[.int .i64 s.cfg.stripes,.int .i64 s.cfg.sessions,.int .i64 s.cfg.queue,.int .i64 s.cfg.watches,.int .i64 s.cfg.retries,.int .u64 s.cfg.epochs,.int .u64 s.cfg.start,.slice Ac s.clients.length cc,.slice Ap s.picks.length cp]) rfl))<|WL.e (Ef.call rfl en40 (ocode_Check s _ _ _ hc hp h1 h2) (fun _ h=>h.elim)) ?_
 rintro _ t2 ⟨s2,rfl⟩
 obtain ⟨hb1,hc,hz⟩:=Q3 (hb1.n s2) (hc.n s2) (Nat.le_trans hz s2.size)
 refine WL.a rfl<|WL.go<|WC.rs<|WL.m rfl<|WL.f (Fr.bo rfl rfl BO.ne)<|WL.go ?_
 refine WC.condS rfl (fun hcond13=>?_) (fun hcond13=>?_)
 ·have hck:checkS s ≠ 0:=dcF (notE hcond13)
  exact WC.rs<|WL.m rfl<|WL.a rfl<|WL.a rfl<|WL.go<|WC.ret<|WQ.tr<|WQ.ret rfl (.tmp rfl (.tmp rfl .nil)) (by rw [if_neg hck]; rfl)
 have hck:checkS s = 0:=dcT (notE hcond13)
 refine WC.skip<|WQ.n<|WC.rs<|WL.q 0 rfl fa28_0<|WL.r (Rd.la rfl ag24 (hb1.at (vs:=[.int .i64 s.cfg.stripes,.int .i64 s.cfg.sessions,.int .i64 s.cfg.queue,.int .i64 s.cfg.watches,.int .i64 s.cfg.retries,.int .u64 s.cfg.epochs,.int .u64 s.cfg.start]) rfl))<|WL.e (Ef.call rfl en41 (hall_New s.cfg _ he0 he1) (fun _ h=>h.elim)) ?_
 rintro v18 t3 ⟨s3,h18⟩
 obtain ⟨hb1,hc,hz⟩:=Q3 (hb1.n s3) (hc.n s3) (Nat.le_trans hz s3.size)
 have hcr:cfgRight s.cfg = true:=checkS_right hck
 rw [if_neg (by simp [hcr])] at h18
 obtain ⟨hb,fp,rfl,nhb,hH⟩:=h18
 refine WL.m rfl<|WL.f (Fr.ext rfl rfl)<|WL.f (Fr.ext rfl rfl)<|WL.a rfl<|WL.a rfl<|WL.go<|WC.seq<|WC.rs<|WL.m rfl<|WL.f (Fr.bo rfl rfl BO.ne) ?_
 refine WL.go<|WC.condF<|WC.skip<|WQ.n<|WC.rs<|WL.m rfl<|WL.m rfl<|WL.e (Ef.call rfl en42 (sweep_New _ _) (fun _ h=>h)) ?_
 rintro _ t4 ⟨s4,bs,rfl,nbs,hsw⟩
 obtain ⟨hH,hb1,hc,hz⟩:=Q4 (hH.n s4) (hb1.n s4) (hc.n s4) (Nat.le_trans hz s4.size)
 refine WL.f (Fr.bd (vs:=[(0,.pointer (some ⟨hb,0,none⟩)),(2,.pointer (some ⟨bs,0,none⟩)),(3,.int .i64 (-1))]) (cs:=#[.pointer (some ⟨hb,0,none⟩),.slice none 0 0,.pointer (some ⟨bs,0,none⟩),.int .i64 (-1),.int .i64 0,.int .i64 0,.int .i64 0,.slice none 0 0]) rfl (fun w=>by kernel_rfl))<|WL.e (Ef.bx (.run) (cs:=[.pointer (some ⟨hb,0,none⟩),.slice none 0 0,.pointer (some ⟨bs,0,none⟩),.int .i64 (-1),.int .i64 0,.int .i64 0,.int .i64 0,.slice none 0 0]) rfl) ?_
 rintro _ t5 ⟨b28,rfl,s5,hb28,nb28,mb28⟩
 obtain ⟨hH,hb1,hc,hsw,hz⟩:=Q5 (hH.n s5) (hb1.n s5) (hc.n s5) (hsw.step' s5 st0) (Nat.le_trans hz s5.size)
 refine WL.a rfl<|WL.go<|WC.seq<|WC.rs<|WL.q 7 rfl fa28_1<|WL.r (Rd.ld rfl sc25 (hb1.cell rfl))<|WL.f (Fr.ln rfl Tryz.underlying25)<|WL.m rfl<|WL.go<|WC.block ?_
 refine WC.loop (σ:=Nat) (fun k t' => Sl t' (kSl kOp) (.slice Ac s.clients.length cc) s.clients ∧ t.w.heap.size ≤ t'.w.heap.size ∧ Bk t' b1 [.int .i64 s.cfg.stripes,.int .i64 s.cfg.sessions,.int .i64 s.cfg.queue,.int .i64 s.cfg.watches,.int .i64 s.cfg.retries,.int .u64 s.cfg.epochs,.int .u64 s.cfg.start,.slice Ac s.clients.length cc,.slice Ap s.picks.length cp] 28 (.loc 1) ∧ IsHall t' hb (hNew s.cfg fp) ∧ IsSw t' bs ⟨0,0,swBegin 0⟩ ∧ k ≤ s.clients.length ∧ (∃ cv ps,Bk t' b28 [.pointer (some ⟨hb,0,none⟩),cv,.pointer (some ⟨bs,0,none⟩),.int .i64 (-1),.int .i64 0,.int .i64 0,.int .i64 0,.slice none 0 0] 107 .run ∧ Row t' (.loc 48) t.w.heap.size 108 kPtr cv ps ∧ Cls t' ps (clN s k)) ∧ True) (fun k=>[(2,.pointer none),(3,.int .i64 0),(7,.pointer (some ⟨b28,0,none⟩)),(30,.slice Ac s.clients.length cc),(31,.int .i64 (s.clients.length:Int)),(32,.int .i64 (k:Int))]) (fun k=>s.clients.length - k) 0 ⟨rfl,rfl,rfl,rfl,rfl,rfl,trivial⟩ ⟨hc,hz,hb1,hH,hsw,Nat.zero_le _,⟨_,_,hb28,Row.nil _ _ _ _ _,rfl,fun i b c h=>by simp at h⟩,trivial⟩ ?_
 rintro k t6 ⟨hc,hz,hb1,hH,hsw,hk,hI,_⟩
 obtain ⟨cv,ps,hb28,hps,hcls⟩:=hI
 obtain ⟨Aq,cq,rfl,_⟩:=hps.form
 refine WC.rs<|WL.f (Fr.bo rfl rfl BO.lt)<|WL.go<|WC.seq ?_
 refine WC.condS rfl (fun hcond33=>?_) (fun hcond33=>?_)
 ·have hlt:k < s.clients.length:=by have:=dcT hcond33; omega
  refine WC.skip<|WQ.n<|WC.seq<|WC.block<|WC.rs ?_
  obtain ⟨bo,oo,capo,co,eo,hcpo,⟨ov,rfl,ho⟩,hAo,hlbo,hfzo⟩:=hc.at_ (List.getElem?_eq_getElem hlt)
  obtain ⟨hAo1,_,_⟩:=Value.slice.inj eo
  obtain ⟨Ao,cpo,rfl,_⟩:=ho.form
  have hol:=h3 _ (List.getElem_mem hlt)
  have hpl:ps.length = k:=by rw [hcls.1,clN_len hk]
  refine WL.f (Fr.ix (congrArg (fun A=>some (Value.slice A s.clients.length cc)) hAo1) rfl sl25 (by omega) (by omega) (o' := oo + k * 1) (by simp))<|WL.r (Rd.ld rfl sc76 (hAo.one rfl))<|WL.a rfl<|WL.go<|WC.dr (fun _=>True) (.blk (.then_ (.then_ (.blk (.then_ .body))))) (trivial) ?_
  obtain ⟨hH,hb1,hb28,hc,hps,hsw,hz⟩:=Q7 (hH.n (TW.drew_step _)) (hb1.n (TW.drew_step _)) (hb28.n (TW.drew_step _)) (hc.n (TW.drew_step _)) (hps.n (TW.drew_step _)) (hsw.step' (TW.drew_step _) st0) (Nat.le_trans hz (TW.drew_step _).size)
  have hcls:=hcls.step (TW.drew_step _) (fun _ _ _ h=>h)
  have ho:=ho.n (TW.drew_step _)
  refine DL.m 0 rfl rfl<|DL.m 1 rfl rfl<|DL.fx 2 rfl (Fr.ncP rfl)<|DL.fx 3 rfl (Fr.q 1 rfl fa107_1)<|DL.m 6 rfl rfl ?_
  refine DL.e2 (i:=4) (j:=5) (by kernel_rfl) ?_ ?_
  focus
   refine DOp.r rfl (Rd.ld rfl sc104 (hb28.cell rfl))<|DL.ex 5 rfl (Ef.bs (.loc 41) (vs:=[]) (cs:=[]) (e:=56) rfl (fun w=>by kernel_rfl)) (fun _ _ _=>trivial) ?_
   rintro _ t7 ⟨b41,rfl,s7,hb41,nb41,_⟩
   obtain ⟨hH,hb1,hb28,hc,hps,hsw,hz⟩:=Q7 (hH.n s7) (hb1.n s7) (hb28.n s7) (hc.n s7) (hps.n s7) (hsw.step' s7 st0) (Nat.le_trans hz s7.size)
   have hcls:=hcls.step s7 (fun _ _ _ h=>h)
   have ho:=ho.n s7
   refine DL.ex 7 rfl (Ef.aps rfl rfl sl76 el56 (by decide) (Row.empty (g:=.loc 41) (B:=t.w.heap.size) hb41 nb41 rfl (by decide)) ho (Nat.le_of_lt (Nat.lt_of_le_of_lt nb41 hb41.lt)) (by simp only [List.length_nil,Nat.zero_add]; omega) (by decide) nofun (.inl (Nat.le_refl _))) (fun _ _ _=>trivial) ?_
   rintro v43 t8 ⟨s8,h43⟩
   obtain ⟨hH,hb1,hb28,hc,hps,hsw,hz⟩:=Q7 (hH.n s8) (hb1.n s8) (hb28.n s8) (hc.n s8) (hps.n s8) (hsw.step' s8 ⟨nofun,nofun,nofun⟩) (Nat.le_trans hz s8.size)
   have hcls:=hcls.step s8 (fun i z hz e=>by subst e; rcases hz.cli with e | e <;> cases e)
   obtain ⟨A43,c43,rfl,_⟩:=h43.form
   refine DL.ex 8 rfl (Ef.call rfl en43 (heed_NewMine k _) (fun _ h=>h.elim)) (fun _ _ _=>trivial) ?_
   rintro _ t9 ⟨s9,b44,rfl,n44,hM⟩
   obtain ⟨hH,hb1,hb28,hc,hps,hsw,hz⟩:=Q7 (hH.n s9) (hb1.n s9) (hb28.n s9) (hc.n s9) (hps.n s9) (hsw.step' s9 st0) (Nat.le_trans hz s9.size)
   have hcls:=hcls.step s9 (fun _ _ _ h=>h)
   have h43:=h43.n s9
   refine DL.fx 9 rfl (Fr.bd (vs:=[(0,.slice A43 ([] ++ s.clients[k]).length c43),(2,.pointer (some ⟨b44,0,none⟩)),(4,.int .i64 (-1))]) (cs:=#[.slice A43 ([] ++ s.clients[k]).length c43,.int .i64 0,.pointer (some ⟨b44,0,none⟩),.nilIface,.int .i64 (-1)]) rfl (fun w=>by kernel_rfl))<|DL.ex 10 rfl (Ef.bx (.client k) (cs:=[.slice A43 ([] ++ s.clients[k]).length c43,.int .i64 0,.pointer (some ⟨b44,0,none⟩),.nilIface,.int .i64 (-1)]) rfl) (fun _ _ _=>trivial) ?_
   rintro _ t10 ⟨b46,rfl,s10,hb46,nb46,mb46⟩
   obtain ⟨hH,hb1,hb28,hc,hps,hsw,hz⟩:=Q7 (hH.n s10) (hb1.n s10) (hb28.n s10) (hc.n s10) (hps.n s10) (hsw.step' s10 st0) (Nat.le_trans hz s10.size)
   have hcls:=hcls.step s10 (fun _ _ _ h=>h)
   obtain ⟨h43,hM⟩:=Q2 (h43.n s10) (hM.n s10)
   refine DL.ex 11 rfl (Ef.bs (.loc 47) (vs:=[(0,.pointer (some ⟨b46,0,none⟩))]) (cs:=[.pointer (some ⟨b46,0,none⟩)]) (e:=108) rfl (fun w=>by kernel_rfl)) (fun _ _ _=>trivial) ?_
   rintro _ t11 ⟨b47,rfl,s11,hb47,nb47,_⟩
   obtain ⟨hH,hb1,hb28,hc,hps,hsw,hz⟩:=Q7 (hH.n s11) (hb1.n s11) (hb28.n s11) (hc.n s11) (hps.n s11) (hsw.step' s11 st0) (Nat.le_trans hz s11.size)
   have hcls:=hcls.step s11 (fun _ _ _ h=>h)
   obtain ⟨h43,hM,hb46⟩:=Q3 (h43.n s11) (hM.n s11) (hb46.n s11)
   refine DL.ex 12 rfl (Ef.ap1 (dk:=kPtr) (y1:=b46) rfl rfl hb47 rfl sl104 el108 (by decide) hps hz (by omega) (by decide) nofun (.inl (Nat.le_refl _))) (fun _ _ _=>trivial) ?_
   rintro v48 t12 ⟨s12,hps2⟩
   obtain ⟨hH,hb1,hb28,hc,hsw,hz⟩:=Q6 (hH.n s12) (hb1.n s12) (hb28.n s12) (hc.n s12) (hsw.step' s12 ⟨nofun,nofun,nofun⟩) (Nat.le_trans hz s12.size)
   have hcls:=hcls.step s12 (fun i z hz e=>by subst e; rcases hz.cli with e | e <;> cases e)
   obtain ⟨h43,hM,hb46⟩:=Q3 (h43.n s12) (hM.n s12) (hb46.n s12)
   obtain ⟨A2,c2,rfl,_⟩:=hps2.form
   refine DL.fx 13 rfl (Fr.ncP rfl)<|DL.fx 14 rfl (Fr.q 1 rfl fa107_1)<|DL.e0x 15 rfl (Ef.T [.slice A2 (ps ++ [b46]).length c2] rfl rfl hb28 sz104 (.inl nb28)) (fun _ _ _=>trivial) ?_
   rintro _ t13 ⟨u13,s13,hb28'⟩
  rotate_left
  focus
   refine DOp.e rfl (Ef.bs (.loc 41) (vs:=[]) (cs:=[]) (e:=56) rfl (fun w=>by kernel_rfl)) (fun _ _ _=>trivial) ?_
   rintro _ t14 ⟨b41,rfl,s14,hb41,nb41,_⟩
   obtain ⟨hH,hb1,hb28,hc,hps,hsw,hz⟩:=Q7 (hH.n s14) (hb1.n s14) (hb28.n s14) (hc.n s14) (hps.n s14) (hsw.step' s14 st0) (Nat.le_trans hz s14.size)
   have hcls:=hcls.step s14 (fun _ _ _ h=>h)
   have ho:=ho.n s14
   refine DL.e2 (i:=4) (j:=7) (by kernel_rfl) ?_ ?_
   focus
    refine DOp.r rfl (Rd.ld rfl sc104 (hb28.cell rfl))<|DL.ex 7 rfl (Ef.aps rfl rfl sl76 el56 (by decide) (Row.empty (g:=.loc 41) (B:=t.w.heap.size) hb41 nb41 rfl (by decide)) ho (Nat.le_of_lt (Nat.lt_of_le_of_lt nb41 hb41.lt)) (by simp only [List.length_nil,Nat.zero_add]; omega) (by decide) nofun (.inl (Nat.le_refl _))) (fun _ _ _=>trivial) ?_
    rintro v43 t15 ⟨s15,h43⟩
    obtain ⟨hH,hb1,hb28,hc,hps,hsw,hz⟩:=Q7 (hH.n s15) (hb1.n s15) (hb28.n s15) (hc.n s15) (hps.n s15) (hsw.step' s15 ⟨nofun,nofun,nofun⟩) (Nat.le_trans hz s15.size)
    have hcls:=hcls.step s15 (fun i z hz e=>by subst e; rcases hz.cli with e | e <;> cases e)
    obtain ⟨A43,c43,rfl,_⟩:=h43.form
    refine DL.ex 8 rfl (Ef.call rfl en43 (heed_NewMine k _) (fun _ h=>h.elim)) (fun _ _ _=>trivial) ?_
    rintro _ t16 ⟨s16,b44,rfl,n44,hM⟩
    obtain ⟨hH,hb1,hb28,hc,hps,hsw,hz⟩:=Q7 (hH.n s16) (hb1.n s16) (hb28.n s16) (hc.n s16) (hps.n s16) (hsw.step' s16 st0) (Nat.le_trans hz s16.size)
    have hcls:=hcls.step s16 (fun _ _ _ h=>h)
    have h43:=h43.n s16
    refine DL.fx 9 rfl (Fr.bd (vs:=[(0,.slice A43 ([] ++ s.clients[k]).length c43),(2,.pointer (some ⟨b44,0,none⟩)),(4,.int .i64 (-1))]) (cs:=#[.slice A43 ([] ++ s.clients[k]).length c43,.int .i64 0,.pointer (some ⟨b44,0,none⟩),.nilIface,.int .i64 (-1)]) rfl (fun w=>by kernel_rfl))<|DL.ex 10 rfl (Ef.bx (.client k) (cs:=[.slice A43 ([] ++ s.clients[k]).length c43,.int .i64 0,.pointer (some ⟨b44,0,none⟩),.nilIface,.int .i64 (-1)]) rfl) (fun _ _ _=>trivial) ?_
    rintro _ t17 ⟨b46,rfl,s17,hb46,nb46,mb46⟩
    obtain ⟨hH,hb1,hb28,hc,hps,hsw,hz⟩:=Q7 (hH.n s17) (hb1.n s17) (hb28.n s17) (hc.n s17) (hps.n s17) (hsw.step' s17 st0) (Nat.le_trans hz s17.size)
    have hcls:=hcls.step s17 (fun _ _ _ h=>h)
    obtain ⟨h43,hM⟩:=Q2 (h43.n s17) (hM.n s17)
    refine DL.ex 11 rfl (Ef.bs (.loc 47) (vs:=[(0,.pointer (some ⟨b46,0,none⟩))]) (cs:=[.pointer (some ⟨b46,0,none⟩)]) (e:=108) rfl (fun w=>by kernel_rfl)) (fun _ _ _=>trivial) ?_
    rintro _ t18 ⟨b47,rfl,s18,hb47,nb47,_⟩
    obtain ⟨hH,hb1,hb28,hc,hps,hsw,hz⟩:=Q7 (hH.n s18) (hb1.n s18) (hb28.n s18) (hc.n s18) (hps.n s18) (hsw.step' s18 st0) (Nat.le_trans hz s18.size)
    have hcls:=hcls.step s18 (fun _ _ _ h=>h)
    obtain ⟨h43,hM,hb46⟩:=Q3 (h43.n s18) (hM.n s18) (hb46.n s18)
    refine DL.ex 12 rfl (Ef.ap1 (dk:=kPtr) (y1:=b46) rfl rfl hb47 rfl sl104 el108 (by decide) hps hz (by omega) (by decide) nofun (.inl (Nat.le_refl _))) (fun _ _ _=>trivial) ?_
    rintro v48 t19 ⟨s19,hps2⟩
    obtain ⟨hH,hb1,hb28,hc,hsw,hz⟩:=Q6 (hH.n s19) (hb1.n s19) (hb28.n s19) (hc.n s19) (hsw.step' s19 ⟨nofun,nofun,nofun⟩) (Nat.le_trans hz s19.size)
    have hcls:=hcls.step s19 (fun i z hz e=>by subst e; rcases hz.cli with e | e <;> cases e)
    obtain ⟨h43,hM,hb46⟩:=Q3 (h43.n s19) (hM.n s19) (hb46.n s19)
    obtain ⟨A2,c2,rfl,_⟩:=hps2.form
    refine DL.fx 13 rfl (Fr.ncP rfl)<|DL.fx 14 rfl (Fr.q 1 rfl fa107_1)<|DL.e0x 15 rfl (Ef.T [.slice A2 (ps ++ [b46]).length c2] rfl rfl hb28 sz104 (.inl nb28)) (fun _ _ _=>trivial) ?_
    rintro _ t13 ⟨u20,s13,hb28'⟩
   rotate_left
   focus
    refine DOp.e rfl (Ef.aps rfl rfl sl76 el56 (by decide) (Row.empty (g:=.loc 41) (B:=t.w.heap.size) hb41 nb41 rfl (by decide)) ho (Nat.le_of_lt (Nat.lt_of_le_of_lt nb41 hb41.lt)) (by simp only [List.length_nil,Nat.zero_add]; omega) (by decide) nofun (.inl (Nat.le_refl _))) (fun _ _ _=>trivial) ?_
    rintro v43 t21 ⟨s21,h43⟩
    obtain ⟨hH,hb1,hb28,hc,hps,hsw,hz⟩:=Q7 (hH.n s21) (hb1.n s21) (hb28.n s21) (hc.n s21) (hps.n s21) (hsw.step' s21 ⟨nofun,nofun,nofun⟩) (Nat.le_trans hz s21.size)
    have hcls:=hcls.step s21 (fun i z hz e=>by subst e; rcases hz.cli with e | e <;> cases e)
    obtain ⟨A43,c43,rfl,_⟩:=h43.form
    refine DL.e2 (i:=4) (j:=8) (by kernel_rfl) ?_ ?_
    focus
     refine DOp.r rfl (Rd.ld rfl sc104 (hb28.cell rfl))<|DL.ex 8 rfl (Ef.call rfl en43 (heed_NewMine k _) (fun _ h=>h.elim)) (fun _ _ _=>trivial) ?_
     rintro _ t22 ⟨s22,b44,rfl,n44,hM⟩
     obtain ⟨hH,hb1,hb28,hc,hps,hsw,hz⟩:=Q7 (hH.n s22) (hb1.n s22) (hb28.n s22) (hc.n s22) (hps.n s22) (hsw.step' s22 st0) (Nat.le_trans hz s22.size)
     have hcls:=hcls.step s22 (fun _ _ _ h=>h)
     have h43:=h43.n s22
     refine DL.fx 9 rfl (Fr.bd (vs:=[(0,.slice A43 ([] ++ s.clients[k]).length c43),(2,.pointer (some ⟨b44,0,none⟩)),(4,.int .i64 (-1))]) (cs:=#[.slice A43 ([] ++ s.clients[k]).length c43,.int .i64 0,.pointer (some ⟨b44,0,none⟩),.nilIface,.int .i64 (-1)]) rfl (fun w=>by kernel_rfl))<|DL.ex 10 rfl (Ef.bx (.client k) (cs:=[.slice A43 ([] ++ s.clients[k]).length c43,.int .i64 0,.pointer (some ⟨b44,0,none⟩),.nilIface,.int .i64 (-1)]) rfl) (fun _ _ _=>trivial) ?_
     rintro _ t23 ⟨b46,rfl,s23,hb46,nb46,mb46⟩
     obtain ⟨hH,hb1,hb28,hc,hps,hsw,hz⟩:=Q7 (hH.n s23) (hb1.n s23) (hb28.n s23) (hc.n s23) (hps.n s23) (hsw.step' s23 st0) (Nat.le_trans hz s23.size)
     have hcls:=hcls.step s23 (fun _ _ _ h=>h)
     obtain ⟨h43,hM⟩:=Q2 (h43.n s23) (hM.n s23)
     refine DL.ex 11 rfl (Ef.bs (.loc 47) (vs:=[(0,.pointer (some ⟨b46,0,none⟩))]) (cs:=[.pointer (some ⟨b46,0,none⟩)]) (e:=108) rfl (fun w=>by kernel_rfl)) (fun _ _ _=>trivial) ?_
     rintro _ t24 ⟨b47,rfl,s24,hb47,nb47,_⟩
     obtain ⟨hH,hb1,hb28,hc,hps,hsw,hz⟩:=Q7 (hH.n s24) (hb1.n s24) (hb28.n s24) (hc.n s24) (hps.n s24) (hsw.step' s24 st0) (Nat.le_trans hz s24.size)
     have hcls:=hcls.step s24 (fun _ _ _ h=>h)
     obtain ⟨h43,hM,hb46⟩:=Q3 (h43.n s24) (hM.n s24) (hb46.n s24)
     refine DL.ex 12 rfl (Ef.ap1 (dk:=kPtr) (y1:=b46) rfl rfl hb47 rfl sl104 el108 (by decide) hps hz (by omega) (by decide) nofun (.inl (Nat.le_refl _))) (fun _ _ _=>trivial) ?_
     rintro v48 t25 ⟨s25,hps2⟩
     obtain ⟨hH,hb1,hb28,hc,hsw,hz⟩:=Q6 (hH.n s25) (hb1.n s25) (hb28.n s25) (hc.n s25) (hsw.step' s25 ⟨nofun,nofun,nofun⟩) (Nat.le_trans hz s25.size)
     have hcls:=hcls.step s25 (fun i z hz e=>by subst e; rcases hz.cli with e | e <;> cases e)
     obtain ⟨h43,hM,hb46⟩:=Q3 (h43.n s25) (hM.n s25) (hb46.n s25)
     obtain ⟨A2,c2,rfl,_⟩:=hps2.form
     refine DL.fx 13 rfl (Fr.ncP rfl)<|DL.fx 14 rfl (Fr.q 1 rfl fa107_1)<|DL.e0x 15 rfl (Ef.T [.slice A2 (ps ++ [b46]).length c2] rfl rfl hb28 sz104 (.inl nb28)) (fun _ _ _=>trivial) ?_
     rintro _ t13 ⟨u26,s13,hb28'⟩
    rotate_left
    focus
     refine DOp.e rfl (Ef.call rfl en43 (heed_NewMine k _) (fun _ h=>h.elim)) (fun _ _ _=>trivial) ?_
     rintro _ t27 ⟨s27,b44,rfl,n44,hM⟩
     obtain ⟨hH,hb1,hb28,hc,hps,hsw,hz⟩:=Q7 (hH.n s27) (hb1.n s27) (hb28.n s27) (hc.n s27) (hps.n s27) (hsw.step' s27 st0) (Nat.le_trans hz s27.size)
     have hcls:=hcls.step s27 (fun _ _ _ h=>h)
     have h43:=h43.n s27
     refine DL.fx 9 rfl (Fr.bd (vs:=[(0,.slice A43 ([] ++ s.clients[k]).length c43),(2,.pointer (some ⟨b44,0,none⟩)),(4,.int .i64 (-1))]) (cs:=#[.slice A43 ([] ++ s.clients[k]).length c43,.int .i64 0,.pointer (some ⟨b44,0,none⟩),.nilIface,.int .i64 (-1)]) rfl (fun w=>by kernel_rfl)) ?_
     refine DL.e2 (i:=4) (j:=10) (by kernel_rfl) ?_ ?_
     focus
      refine DOp.r rfl (Rd.ld rfl sc104 (hb28.cell rfl))<|DL.ex 10 rfl (Ef.bx (.client k) (cs:=[.slice A43 ([] ++ s.clients[k]).length c43,.int .i64 0,.pointer (some ⟨b44,0,none⟩),.nilIface,.int .i64 (-1)]) rfl) (fun _ _ _=>trivial) ?_
      rintro _ t28 ⟨b46,rfl,s28,hb46,nb46,mb46⟩
      obtain ⟨hH,hb1,hb28,hc,hps,hsw,hz⟩:=Q7 (hH.n s28) (hb1.n s28) (hb28.n s28) (hc.n s28) (hps.n s28) (hsw.step' s28 st0) (Nat.le_trans hz s28.size)
      have hcls:=hcls.step s28 (fun _ _ _ h=>h)
      obtain ⟨h43,hM⟩:=Q2 (h43.n s28) (hM.n s28)
      refine DL.ex 11 rfl (Ef.bs (.loc 47) (vs:=[(0,.pointer (some ⟨b46,0,none⟩))]) (cs:=[.pointer (some ⟨b46,0,none⟩)]) (e:=108) rfl (fun w=>by kernel_rfl)) (fun _ _ _=>trivial) ?_
      rintro _ t29 ⟨b47,rfl,s29,hb47,nb47,_⟩
      obtain ⟨hH,hb1,hb28,hc,hps,hsw,hz⟩:=Q7 (hH.n s29) (hb1.n s29) (hb28.n s29) (hc.n s29) (hps.n s29) (hsw.step' s29 st0) (Nat.le_trans hz s29.size)
      have hcls:=hcls.step s29 (fun _ _ _ h=>h)
      obtain ⟨h43,hM,hb46⟩:=Q3 (h43.n s29) (hM.n s29) (hb46.n s29)
      refine DL.ex 12 rfl (Ef.ap1 (dk:=kPtr) (y1:=b46) rfl rfl hb47 rfl sl104 el108 (by decide) hps hz (by omega) (by decide) nofun (.inl (Nat.le_refl _))) (fun _ _ _=>trivial) ?_
      rintro v48 t30 ⟨s30,hps2⟩
      obtain ⟨hH,hb1,hb28,hc,hsw,hz⟩:=Q6 (hH.n s30) (hb1.n s30) (hb28.n s30) (hc.n s30) (hsw.step' s30 ⟨nofun,nofun,nofun⟩) (Nat.le_trans hz s30.size)
      have hcls:=hcls.step s30 (fun i z hz e=>by subst e; rcases hz.cli with e | e <;> cases e)
      obtain ⟨h43,hM,hb46⟩:=Q3 (h43.n s30) (hM.n s30) (hb46.n s30)
      obtain ⟨A2,c2,rfl,_⟩:=hps2.form
      refine DL.fx 13 rfl (Fr.ncP rfl)<|DL.fx 14 rfl (Fr.q 1 rfl fa107_1)<|DL.e0x 15 rfl (Ef.T [.slice A2 (ps ++ [b46]).length c2] rfl rfl hb28 sz104 (.inl nb28)) (fun _ _ _=>trivial) ?_
      rintro _ t13 ⟨u31,s13,hb28'⟩
     rotate_left
     focus
      refine DOp.e rfl (Ef.bx (.client k) (cs:=[.slice A43 ([] ++ s.clients[k]).length c43,.int .i64 0,.pointer (some ⟨b44,0,none⟩),.nilIface,.int .i64 (-1)]) rfl) (fun _ _ _=>trivial) ?_
      rintro _ t32 ⟨b46,rfl,s32,hb46,nb46,mb46⟩
      obtain ⟨hH,hb1,hb28,hc,hps,hsw,hz⟩:=Q7 (hH.n s32) (hb1.n s32) (hb28.n s32) (hc.n s32) (hps.n s32) (hsw.step' s32 st0) (Nat.le_trans hz s32.size)
      have hcls:=hcls.step s32 (fun _ _ _ h=>h)
      obtain ⟨h43,hM⟩:=Q2 (h43.n s32) (hM.n s32)
      refine DL.e2 (i:=4) (j:=11) (by kernel_rfl) ?_ ?_
      focus
       refine DOp.r rfl (Rd.ld rfl sc104 (hb28.cell rfl))<|DL.ex 11 rfl (Ef.bs (.loc 47) (vs:=[(0,.pointer (some ⟨b46,0,none⟩))]) (cs:=[.pointer (some ⟨b46,0,none⟩)]) (e:=108) rfl (fun w=>by kernel_rfl)) (fun _ _ _=>trivial) ?_
       rintro _ t33 ⟨b47,rfl,s33,hb47,nb47,_⟩
       obtain ⟨hH,hb1,hb28,hc,hps,hsw,hz⟩:=Q7 (hH.n s33) (hb1.n s33) (hb28.n s33) (hc.n s33) (hps.n s33) (hsw.step' s33 st0) (Nat.le_trans hz s33.size)
       have hcls:=hcls.step s33 (fun _ _ _ h=>h)
       obtain ⟨h43,hM,hb46⟩:=Q3 (h43.n s33) (hM.n s33) (hb46.n s33)
       refine DL.ex 12 rfl (Ef.ap1 (dk:=kPtr) (y1:=b46) rfl rfl hb47 rfl sl104 el108 (by decide) hps hz (by omega) (by decide) nofun (.inl (Nat.le_refl _))) (fun _ _ _=>trivial) ?_
       rintro v48 t34 ⟨s34,hps2⟩
       obtain ⟨hH,hb1,hb28,hc,hsw,hz⟩:=Q6 (hH.n s34) (hb1.n s34) (hb28.n s34) (hc.n s34) (hsw.step' s34 ⟨nofun,nofun,nofun⟩) (Nat.le_trans hz s34.size)
       have hcls:=hcls.step s34 (fun i z hz e=>by subst e; rcases hz.cli with e | e <;> cases e)
       obtain ⟨h43,hM,hb46⟩:=Q3 (h43.n s34) (hM.n s34) (hb46.n s34)
       obtain ⟨A2,c2,rfl,_⟩:=hps2.form
       refine DL.fx 13 rfl (Fr.ncP rfl)<|DL.fx 14 rfl (Fr.q 1 rfl fa107_1)<|DL.e0x 15 rfl (Ef.T [.slice A2 (ps ++ [b46]).length c2] rfl rfl hb28 sz104 (.inl nb28)) (fun _ _ _=>trivial) ?_
       rintro _ t13 ⟨u35,s13,hb28'⟩
      rotate_left
      focus
       refine DOp.e rfl (Ef.bs (.loc 47) (vs:=[(0,.pointer (some ⟨b46,0,none⟩))]) (cs:=[.pointer (some ⟨b46,0,none⟩)]) (e:=108) rfl (fun w=>by kernel_rfl)) (fun _ _ _=>trivial) ?_
       rintro _ t36 ⟨b47,rfl,s36,hb47,nb47,_⟩
       obtain ⟨hH,hb1,hb28,hc,hps,hsw,hz⟩:=Q7 (hH.n s36) (hb1.n s36) (hb28.n s36) (hc.n s36) (hps.n s36) (hsw.step' s36 st0) (Nat.le_trans hz s36.size)
       have hcls:=hcls.step s36 (fun _ _ _ h=>h)
       obtain ⟨h43,hM,hb46⟩:=Q3 (h43.n s36) (hM.n s36) (hb46.n s36)
       refine DL.rx 4 rfl (Rd.ld rfl sc104 (hb28.cell rfl))<|DL.ex 12 rfl (Ef.ap1 (dk:=kPtr) (y1:=b46) rfl rfl hb47 rfl sl104 el108 (by decide) hps hz (by omega) (by decide) nofun (.inl (Nat.le_refl _))) (fun _ _ _=>trivial) ?_
       rintro v48 t37 ⟨s37,hps2⟩
       obtain ⟨hH,hb1,hb28,hc,hsw,hz⟩:=Q6 (hH.n s37) (hb1.n s37) (hb28.n s37) (hc.n s37) (hsw.step' s37 ⟨nofun,nofun,nofun⟩) (Nat.le_trans hz s37.size)
       have hcls:=hcls.step s37 (fun i z hz e=>by subst e; rcases hz.cli with e | e <;> cases e)
       obtain ⟨h43,hM,hb46⟩:=Q3 (h43.n s37) (hM.n s37) (hb46.n s37)
       obtain ⟨A2,c2,rfl,_⟩:=hps2.form
       refine DL.fx 13 rfl (Fr.ncP rfl)<|DL.fx 14 rfl (Fr.q 1 rfl fa107_1)<|DL.e0x 15 rfl (Ef.T [.slice A2 (ps ++ [b46]).length c2] rfl rfl hb28 sz104 (.inl nb28)) (fun _ _ _=>trivial) ?_
       rintro _ t13 ⟨u38,s13,hb28'⟩
  all_goals
   have hb28:Bk t13 b28 [.pointer (some ⟨hb,0,none⟩),.slice A2 (ps ++ [b46]).length c2,.pointer (some ⟨bs,0,none⟩),.int .i64 (-1),.int .i64 0,.int .i64 0,.int .i64 0,.slice none 0 0] _ _:=hb28'
   clear hb28'
   obtain ⟨hH,hb1,hc,hsw,hz⟩:=Q5 (hH.n s13) (hb1.n s13) (hc.n s13) (hsw.step' s13 ⟨nofun,nofun,nofun⟩) (Nat.le_trans hz s13.size)
   have hcls:=hcls.step s13 (fun i z hz e=>by subst e; rcases hz.cli with e | e <;> cases e)
   obtain ⟨h43,hM,hb46,hps2⟩:=Q4 (h43.n s13) (hM.n s13) (hb46.n s13) (hps2.n s13)
   refine DL.D<|WQ.bn<|WQ.n<|WC.rg<|WL.f (Fr.bo rfl rfl (BO.add (by omega) (by omega)))<|WL.m rfl<|WL.nil ?_
   have q1:=TW.tagv_step t13 (v:=.slice A43 ([] ++ s.clients[k]).length c43) (g' := .fz) h43.tags
   refine WQ.tag (.slice A43 ([] ++ s.clients[k]).length c43) .fz (.inl h43.base) ?_
   have hf:=h43.freeze nofun
   obtain ⟨hH,hM,hb1,hb28,hb46,hc,hps2,hsw⟩:=Q8 (hH.n q1) (hM.n q1) (hb1.n q1) (hb28.n q1) (hb46.n q1) (hc.n q1) (hps2.n q1) (hsw.step' q1 ⟨nofun,nofun,nofun⟩)
   have hcls:=hcls.step q1 (fun i z hz e=>by subst e; rcases hz.cli with e | e <;> cases e)
   have hcl:IsClient (t13.tagv (.slice A43 ([] ++ s.clients[k]).length c43) .fz) (clN s k).length b46 ⟨s.clients[k],0,[],none,-1⟩:=by rw [clN_len hk]; exact ⟨_,b44,.nilIface,hb46,by simpa using hf,hM,rfl⟩
   have hI2:(∃ cv ps,Bk (t13.tagv (.slice A43 ([] ++ s.clients[k]).length c43) .fz) b28 [.pointer (some ⟨hb,0,none⟩),cv,.pointer (some ⟨bs,0,none⟩),.int .i64 (-1),.int .i64 0,.int .i64 0,.int .i64 0,.slice none 0 0] 107 .run ∧ Row (t13.tagv (.slice A43 ([] ++ s.clients[k]).length c43) .fz) (.loc 48) t.w.heap.size 108 kPtr cv ps ∧ Cls (t13.tagv (.slice A43 ([] ++ s.clients[k]).length c43) .fz) ps (clN s (k + 1))):=⟨_,_,hb28,hps2,by rw [clN_succ hlt]; exact hcls.add hcl⟩
   exact WQ.again (k + 1) ⟨rfl,rfl,rfl,rfl,rfl,rfl,trivial⟩ ⟨hc,hz,hb1,hH,hsw,hlt,hI2,trivial⟩ (by omega)
 have hge:k = s.clients.length:=by have:=dcF hcond33; omega
 refine WC.exit<|WQ.tx<|WQ.tx<|WQ.bx<|WQ.n<|WC.rs<|WL.m rfl<|WL.a rfl<|WL.a rfl<|WL.go ?_
 refine WC.ret ?_
 have q2:=TW.tagv_step t6 (g' := .fz) hps.tags
 obtain ⟨hH,hb28,hsw⟩:=Q3 (hH.n q2) (hb28.n q2) (hsw.step' q2 ⟨nofun,nofun,nofun⟩)
 have hcls:=hcls.step q2 (fun i z hz e=>by subst e; rcases hz.cli with e | e <;> cases e)
 refine WQ.tag _ .fz (.inl hps.base) ?_
 have hps3:=hps.freeze nofun
 exact WQ.ret rfl (.tmp rfl (.tmp rfl .nil)) (by
   rw [if_pos hck]
   refine ⟨b28,fp,rfl,nb28,⟨hb,_,bs,_,ps,hb28,hH,hps3,?_,hsw,Row.nil _ _ _ _ _⟩⟩
   show Cls _ ps (s.clients.map _)
   rw [hge] at hcls
   unfold clN at hcls
   rw [List.take_length] at hcls
   exact hcls)
theorem runPlay_succ {s:Script} {fp:Nat → Nat} {k:Nat} (h:k < s.picks.length):runPlay s fp (k + 1) = (runStep (runPlay s fp k) s.picks[k]).1:=by
 unfold runPlay
 rw [List.take_succ_eq_append_getElem h,List.foldl_append]
 rfl
theorem run_Play {s:Script} {cv pv:Value} (t:TW) (hc:Sl t (kSl kOp) cv s.clients) (hp:Sl t kPick pv s.picks) (h1:s.clients.length ≤ 1000000) (h2:s.picks.length ≤ 1000000) (h3:∀ l ∈ s.clients,l.length ≤ 1000000) (he0:0 ≤ s.cfg.epochs) (he1:s.cfg.epochs ≤ 18446744073709551615) (hby:∀ p ∈ s.picks,0 ≤ p.by_ ∧ p.by_ ≤ 18446744073709551615) (hok:checkS s = 0 → ∀ fp k,k < s.picks.length → RunOk (runPlay s fp k)):Cal 9 [.agg (cfgC s.cfg ++ [cv,pv]).toArray] t RT (fun v t' => if checkS s = 0 then ∃ rb fp,v = .tuple #[.pointer (some ⟨rb,0,none⟩),.int .i64 0] ∧ IsRun t' rb (runPlay s fp s.picks.length) else v = .tuple #[.pointer none,.int .i64 (checkS s)]):=by
 obtain ⟨Ac,cc,rfl,_⟩:=hc.form
 obtain ⟨Ap,cp,rfl,_⟩:=hp.form
 refine Cal.en Tryz.func9 rfl Tryz.ntmps9<|WC.rs<|WL.e (Ef.bx (.loc 1) (cs:=[.int .i64 s.cfg.stripes,.int .i64 s.cfg.sessions,.int .i64 s.cfg.queue,.int .i64 s.cfg.watches,.int .i64 s.cfg.retries,.int .u64 s.cfg.epochs,.int .u64 s.cfg.start,.slice Ac s.clients.length cc,.slice Ap s.picks.length cp]) rfl) ?_
 rintro _ t1 ⟨b1,rfl,s1,hb1,nb1,mb1⟩
 obtain ⟨hc,hp⟩:=Q2 (hc.n s1) (hp.n s1)
 refine WL.a rfl<|WL.a rfl<|WL.go<|WC.rs<|WL.r (Rd.la rfl ag28 (hb1.at (vs:=[.int .i64 s.cfg.stripes,.int .i64 s.cfg.sessions,.int .i64 s.cfg.queue,.int .i64 s.cfg.watches,.int .i64 s.cfg.retries,.int .u64 s.cfg.epochs,.int .u64 s.cfg.start,.slice Ac s.clients.length cc,.slice Ap s.picks.length cp]) rfl))<|WL.e (Ef.call rfl en22 (run_New _ hc hp h1 h2 h3 he0 he1) (fun _ h=>by subst h; trivial)) ?_
 rintro v10 t2 ⟨s2,h10⟩
 obtain ⟨hb1,hp⟩:=Q2 (hb1.n s2) (hp.n s2)
 obtain ⟨oq,rfl,hno,hyes⟩:∃ o,v10 = .tuple #[.pointer o,.int .i64 (checkS s)] ∧ (checkS s ≠ 0 → o = none) ∧ (checkS s = 0 → ∃ rb fp,o = some ⟨rb,0,none⟩ ∧ IsRun t2 rb (runNew s fp)):=by
  by_cases e:checkS s = 0
  ·rw [if_pos e] at h10
   obtain ⟨rb,fp,e1,_,hR⟩:=h10
   exact ⟨_,by rw [e1,e],fun h=>absurd e h,fun _=>⟨rb,fp,rfl,hR⟩⟩
  rw [if_neg e] at h10
  exact ⟨_,h10,fun _=>rfl,fun h=>absurd h e⟩
 refine WL.m rfl<|WL.f (Fr.ext rfl rfl)<|WL.f (Fr.ext rfl rfl)<|WL.a rfl<|WL.a rfl<|WL.go<|WC.seq<|WC.rs<|WL.m rfl<|WL.f (Fr.bo rfl rfl BO.ne) ?_
 refine WL.go ?_
 refine WC.condS rfl (fun hcond14=>?_) (fun hcond14=>?_)
 ·have hck:checkS s ≠ 0:=dcF (notE hcond14)
  exact WC.rs<|WL.m rfl<|WL.a rfl<|WL.a rfl<|WL.go<|WC.ret<|WQ.tr<|WQ.ret rfl (.tmp rfl (.tmp rfl .nil)) (by rw [if_neg hck]; rfl)
 have hck:checkS s = 0:=dcT (notE hcond14)
 obtain ⟨rb,fp,rfl,hR⟩:=hyes hck
 refine WC.skip<|WQ.n<|WC.seq<|WC.rs<|WL.q 8 rfl fa28_2<|WL.r (Rd.ld rfl sc26 (hb1.cell rfl))<|WL.f (Fr.ln rfl Tryz.underlying26)<|WL.m rfl<|WL.go<|WC.block ?_
 refine WC.loop (σ:=Nat) (fun k t' => Sl t' kPick (.slice Ap s.picks.length cp) s.picks ∧ Bk t' b1 [.int .i64 s.cfg.stripes,.int .i64 s.cfg.sessions,.int .i64 s.cfg.queue,.int .i64 s.cfg.watches,.int .i64 s.cfg.retries,.int .u64 s.cfg.epochs,.int .u64 s.cfg.start,.slice Ac s.clients.length cc,.slice Ap s.picks.length cp] 28 (.loc 1) ∧ k ≤ s.picks.length ∧ IsRun t' rb (runPlay s fp k) ∧ True) (fun k=>[(2,.pointer none),(3,.int .i64 0),(4,.pointer (some ⟨rb,0,none⟩)),(17,.slice Ap s.picks.length cp),(18,.int .i64 (s.picks.length:Int)),(19,.int .i64 (k:Int))]) (fun k=>s.picks.length - k) 0 ⟨rfl,rfl,rfl,rfl,rfl,rfl,trivial⟩ ⟨hp,hb1,Nat.zero_le _,hR,trivial⟩ ?_
 rintro k t3 ⟨hp,hb1,hk,hR,_⟩
 refine WC.rs<|WL.f (Fr.bo rfl rfl BO.lt)<|WL.go<|WC.seq ?_
 refine WC.condS rfl (fun hcond20=>?_) (fun hcond20=>?_)
 ·have hlt:k < s.picks.length:=by have:=dcT hcond20; omega
  refine WC.skip<|WQ.n<|WC.seq<|WC.block<|WC.rs ?_
  obtain ⟨bo,oo,capo,co,eo,hcpo,rfl,hAo,hlbo,hfzo⟩:=hp.at_ (List.getElem?_eq_getElem hlt)
  obtain ⟨hAo1,_,_⟩:=Value.slice.inj eo
  refine WL.f (Fr.ix (congrArg (fun A=>some (Value.slice A s.picks.length cp)) hAo1) rfl sl26 (by omega) (by omega) (o' := oo + k * 3) (by simp))<|WL.r (Rd.la rfl ag78 hAo)<|WL.e (Ef.al (.loc 7) zr78) ?_
  rintro _ t4 ⟨b7,rfl,s4,hb7,nb7,mb7⟩
  obtain ⟨hb1,hp⟩:=Q2 (hb1.n s4) (hp.n s4)
  have hR:=IsRun.step hR s4 (fun _ h=>h.elim) id
  refine WL.e0 (Ef.T [.int .i64 s.picks[k].kind,.int .i64 s.picks[k].who,.int .u64 s.picks[k].by_] rfl rfl hb7 sz78 (.inl nb7)) ?_
  rintro _ t5 ⟨u5,s5,hb7'⟩
  have hb7:Bk t5 b7 [.int .i64 s.picks[k].kind,.int .i64 s.picks[k].who,.int .u64 s.picks[k].by_] _ _:=hb7'
  clear hb7'
  obtain ⟨hb1,hp⟩:=Q2 (hb1.n s5) (hp.n s5)
  have hR:=IsRun.step hR s5 (fun z h1 h2=>by subst h1; exact h2) nofun
  refine WL.go<|WC.rg<|WL.m rfl<|WL.r (Rd.la rfl ag78 (hb7.at (vs:=[.int .i64 s.picks[k].kind,.int .i64 s.picks[k].who,.int .u64 s.picks[k].by_]) rfl))<|WL.e (Ef.call rfl en23 (run_Step s.picks[k] _ hR (hok hck fp k hlt) (hby _ (List.getElem_mem hlt))) (fun _ h=>h)) ?_
  rintro _ t6 ⟨s6,rfl,hR2⟩
  have hp:=hp.step s6 (fun h=>h)
  have hb1:=hb1.step s6 (fun h=>h)
  exact WL.nil<|WQ.bn<|WQ.n<|WC.rg<|WL.f (Fr.bo rfl rfl (BO.add (by omega) (by omega)))<|WL.m rfl<|WL.nil<|WQ.again (k + 1) ⟨rfl,rfl,rfl,rfl,rfl,rfl,trivial⟩ ⟨hp,hb1,hlt,by rw [runPlay_succ hlt]; exact hR2,trivial⟩ (by omega)
 have hge:k = s.picks.length:=by have:=dcF hcond20; omega
 refine WC.exit<|WQ.tx<|WQ.tx<|WQ.bx<|WQ.n<|WC.rs<|WL.m rfl<|WL.a rfl<|WL.a rfl<|WL.go ?_
 exact WC.ret<|WQ.ret rfl (.tmp rfl (.tmp rfl .nil)) (by rw [if_pos hck,← hge]; exact ⟨rb,fp,rfl,hR⟩)
theorem run_copied {x:CallS} {uv vv ev:Value} (t:TW) (hu:Sl t kStr uv x.op.users) (hv:Sl t kPres vv x.reply.values) (he:Sl t kEvent ev x.reply.events) (h1:x.op.users.length ≤ 1000000) (h2:x.reply.values.length ≤ 1000000) (h3:x.reply.events.length ≤ 1000000):Cal 48 [.agg (callC x uv vv ev).toArray] t No (fun r t' => ∃ c,r = .agg c.toArray ∧ kCall.R t' x c):=by
 refine Cal.en Tryz.func48 rfl Tryz.ntmps48<|WC.rs<|WL.e (Ef.bx (.loc 1) (cs:=[.int .i64 x.who,.int .i64 x.nth,.int .i64 x.op.kind,.string x.op.user,.int .i64 x.op.id,.int .i64 x.op.status,.int .i64 x.op.prio,.int .u64 x.op.ttl,uv,.int .i64 x.stripe,.int .u64 x.by_,.int .i64 x.began,.int .i64 x.placed,.int .i64 x.ended,.int .i64 x.reply.err,vv,ev,.bool x.reply.lost]) rfl) ?_
 rintro _ t1 ⟨b1,rfl,s1,hb1,nb1,mb1⟩
 obtain ⟨he,hu,hv⟩:=Q3 (he.n s1) (hu.n s1) (hv.n s1)
 refine WL.e (Ef.al (.loc 2) zr61) ?_
 rintro _ t2 ⟨b2,rfl,s2,hb2,nb2,mb2⟩
 obtain ⟨hb1,he,hu,hv⟩:=Q4 (hb1.n s2) (he.n s2) (hu.n s2) (hv.n s2)
 refine WL.go<|WC.rs<|WL.e (Ef.bs (.loc 3) (vs:=[]) (cs:=[]) (e:=9) rfl (fun w=>by kernel_rfl)) ?_
 rintro _ t3 ⟨b3,rfl,s3,hb3,nb3,_⟩
 obtain ⟨hb1,hb2,he,hu,hv⟩:=Q5 (hb1.n s3) (hb2.n s3) (he.n s3) (hu.n s3) (hv.n s3)
 refine WL.q 2 rfl fa61_2<|WL.q 8 rfl fa56_6<|WL.r (Rd.ld rfl sc54 (hb1.cell rfl))<|WL.e (Ef.aps rfl rfl sl54 el9 (by decide) (Row.empty (g:=.loc 3) (B:=t.w.heap.size) hb3 nb3 rfl (by decide)) hu (Nat.le_of_lt (Nat.lt_of_le_of_lt nb3 hb3.lt)) (by simp only [List.length_nil,Nat.zero_add]; omega) (by decide) nofun (.inl (Nat.le_refl _))) ?_
 rintro v7 t4 ⟨s4,hru⟩
 obtain ⟨hb1,hb2,he,hv⟩:=Q4 (hb1.n s4) (hb2.n s4) (he.n s4) (hv.n s4)
 rw [List.nil_append] at hru
 obtain ⟨A7,c7,rfl,_⟩:=hru.form
 refine WL.q 2 rfl fa61_2<|WL.q 8 rfl fa56_6<|WL.e0 (Ef.T [.slice A7 x.op.users.length c7] rfl rfl hb1 sz54 (.inl nb1)) ?_
 rintro _ t5 ⟨u5,s5,hb1'⟩
 have hb1:Bk t5 b1 [.int .i64 x.who,.int .i64 x.nth,.int .i64 x.op.kind,.string x.op.user,.int .i64 x.op.id,.int .i64 x.op.status,.int .i64 x.op.prio,.int .u64 x.op.ttl,.slice A7 x.op.users.length c7,.int .i64 x.stripe,.int .u64 x.by_,.int .i64 x.began,.int .i64 x.placed,.int .i64 x.ended,.int .i64 x.reply.err,vv,ev,.bool x.reply.lost] _ _:=hb1'
 clear hb1'
 obtain ⟨hb2,he,hru,hv⟩:=Q4 (hb2.n s5) (he.n s5) (hru.n s5) (hv.n s5)
 refine WL.go<|WC.rs<|WL.e (Ef.bs (.loc 10) (vs:=[]) (cs:=[]) (e:=72) rfl (fun w=>by kernel_rfl)) ?_
 rintro _ t6 ⟨b10,rfl,s6,hb10,nb10,_⟩
 obtain ⟨hb1,hb2,he,hru,hv⟩:=Q5 (hb1.n s6) (hb2.n s6) (he.n s6) (hru.n s6) (hv.n s6)
 refine WL.q 14 rfl fa61_8<|WL.q 15 rfl fa59_1<|WL.r (Rd.ld rfl sc57 (hb1.cell rfl))<|WL.e (Ef.aps rfl rfl sl57 el72 (by decide) (Row.empty (g:=.loc 10) (B:=t.w.heap.size) hb10 nb10 rfl (by decide)) hv (Nat.le_of_lt (Nat.lt_of_le_of_lt nb10 hb10.lt)) (by simp only [List.length_nil,Nat.zero_add]; omega) (by decide) nofun (.inl (Nat.le_refl _))) ?_
 rintro v14 t7 ⟨s7,hrv⟩
 obtain ⟨hb1,hb2,he,hru⟩:=Q4 (hb1.n s7) (hb2.n s7) (he.n s7) (hru.n s7)
 rw [List.nil_append] at hrv
 obtain ⟨A14,c14,rfl,_⟩:=hrv.form
 refine WL.q 14 rfl fa61_8<|WL.q 15 rfl fa59_1<|WL.e0 (Ef.T [.slice A14 x.reply.values.length c14] rfl rfl hb1 sz57 (.inl nb1)) ?_
 rintro _ t8 ⟨u8,s8,hb1'⟩
 have hb1:Bk t8 b1 [.int .i64 x.who,.int .i64 x.nth,.int .i64 x.op.kind,.string x.op.user,.int .i64 x.op.id,.int .i64 x.op.status,.int .i64 x.op.prio,.int .u64 x.op.ttl,.slice A7 x.op.users.length c7,.int .i64 x.stripe,.int .u64 x.by_,.int .i64 x.began,.int .i64 x.placed,.int .i64 x.ended,.int .i64 x.reply.err,.slice A14 x.reply.values.length c14,ev,.bool x.reply.lost] _ _:=hb1'
 clear hb1'
 obtain ⟨hb2,he,hru,hrv⟩:=Q4 (hb2.n s8) (he.n s8) (hru.n s8) (hrv.n s8)
 refine WL.go<|WC.rs<|WL.e (Ef.bs (.loc 17) (vs:=[]) (cs:=[]) (e:=74) rfl (fun w=>by kernel_rfl)) ?_
 rintro _ t9 ⟨b17,rfl,s9,hb17,nb17,_⟩
 obtain ⟨hb1,hb2,he,hru,hrv⟩:=Q5 (hb1.n s9) (hb2.n s9) (he.n s9) (hru.n s9) (hrv.n s9)
 refine WL.q 14 rfl fa61_8<|WL.q 16 rfl fa59_2<|WL.r (Rd.ld rfl sc48 (hb1.cell rfl))<|WL.e (Ef.aps rfl rfl sl48 el74 (by decide) (Row.empty (g:=.loc 17) (B:=t.w.heap.size) hb17 nb17 rfl (by decide)) he (Nat.le_of_lt (Nat.lt_of_le_of_lt nb17 hb17.lt)) (by simp only [List.length_nil,Nat.zero_add]; omega) (by decide) nofun (.inl (Nat.le_refl _))) ?_
 rintro v21 t10 ⟨s10,hre⟩
 obtain ⟨hb1,hb2,hru,hrv⟩:=Q4 (hb1.n s10) (hb2.n s10) (hru.n s10) (hrv.n s10)
 rw [List.nil_append] at hre
 obtain ⟨A21,c21,rfl,_⟩:=hre.form
 refine WL.q 14 rfl fa61_8<|WL.q 16 rfl fa59_2<|WL.e0 (Ef.T [.slice A21 x.reply.events.length c21] rfl rfl hb1 sz48 (.inl nb1)) ?_
 rintro _ t11 ⟨u11,s11,hb1'⟩
 have hb1:Bk t11 b1 [.int .i64 x.who,.int .i64 x.nth,.int .i64 x.op.kind,.string x.op.user,.int .i64 x.op.id,.int .i64 x.op.status,.int .i64 x.op.prio,.int .u64 x.op.ttl,.slice A7 x.op.users.length c7,.int .i64 x.stripe,.int .u64 x.by_,.int .i64 x.began,.int .i64 x.placed,.int .i64 x.ended,.int .i64 x.reply.err,.slice A14 x.reply.values.length c14,.slice A21 x.reply.events.length c21,.bool x.reply.lost] _ _:=hb1'
 clear hb1'
 obtain ⟨hb2,hre,hru,hrv⟩:=Q4 (hb2.n s11) (hre.n s11) (hru.n s11) (hrv.n s11)
 refine WL.go<|WC.rs<|WL.r (Rd.la rfl ag61 (hb1.at (vs:=[.int .i64 x.who,.int .i64 x.nth,.int .i64 x.op.kind,.string x.op.user,.int .i64 x.op.id,.int .i64 x.op.status,.int .i64 x.op.prio,.int .u64 x.op.ttl,.slice A7 x.op.users.length c7,.int .i64 x.stripe,.int .u64 x.by_,.int .i64 x.began,.int .i64 x.placed,.int .i64 x.ended,.int .i64 x.reply.err,.slice A14 x.reply.values.length c14,.slice A21 x.reply.events.length c21,.bool x.reply.lost]) rfl))<|WL.e0 (Ef.T [.int .i64 x.who,.int .i64 x.nth,.int .i64 x.op.kind,.string x.op.user,.int .i64 x.op.id,.int .i64 x.op.status,.int .i64 x.op.prio,.int .u64 x.op.ttl,.slice A7 x.op.users.length c7,.int .i64 x.stripe,.int .u64 x.by_,.int .i64 x.began,.int .i64 x.placed,.int .i64 x.ended,.int .i64 x.reply.err,.slice A14 x.reply.values.length c14,.slice A21 x.reply.events.length c21,.bool x.reply.lost] rfl rfl hb2 sz61 (.inl nb2)) ?_
 rintro _ t12 ⟨u12,s12,hb2'⟩
 have hb2:Bk t12 b2 [.int .i64 x.who,.int .i64 x.nth,.int .i64 x.op.kind,.string x.op.user,.int .i64 x.op.id,.int .i64 x.op.status,.int .i64 x.op.prio,.int .u64 x.op.ttl,.slice A7 x.op.users.length c7,.int .i64 x.stripe,.int .u64 x.by_,.int .i64 x.began,.int .i64 x.placed,.int .i64 x.ended,.int .i64 x.reply.err,.slice A14 x.reply.values.length c14,.slice A21 x.reply.events.length c21,.bool x.reply.lost] _ _:=hb2'
 clear hb2'
 obtain ⟨hre,hru,hrv⟩:=Q3 (hre.n s12) (hru.n s12) (hrv.n s12)
 refine WL.go<|WC.ret ?_
 have q0:=TW.tagv_step t12 (v:=.slice A7 x.op.users.length c7) (g' := .fz) hru.tags
 refine WQ.tag (.slice A7 x.op.users.length c7) .fz (.inl hru.base) ?_
 have fhru:=hru.freeze nofun
 obtain ⟨hb2,hre,hrv⟩:=Q3 (hb2.n q0) (hre.n q0) (hrv.n q0)
 have q1:=TW.tagv_step _ (v:=.slice A14 x.reply.values.length c14) (g' := .fz) hrv.tags
 refine WQ.tag (.slice A14 x.reply.values.length c14) .fz (.inl hrv.base) ?_
 have fhrv:=hrv.freeze nofun
 obtain ⟨fhru,hb2,hre⟩:=Q3 (fhru.n q1) (hb2.n q1) (hre.n q1)
 have q2:=TW.tagv_step _ (v:=.slice A21 x.reply.events.length c21) (g' := .fz) hre.tags
 refine WQ.tag (.slice A21 x.reply.events.length c21) .fz (.inl hre.base) ?_
 have fhre:=hre.freeze nofun
 obtain ⟨fhru,fhrv,hb2⟩:=Q3 (fhru.n q2) (fhrv.n q2) (hb2.n q2)
 exact WQ.ret rfl (.cell rfl (loadVar_ag ag61 rfl (hb2.at (vs:=[.int .i64 x.who,.int .i64 x.nth,.int .i64 x.op.kind,.string x.op.user,.int .i64 x.op.id,.int .i64 x.op.status,.int .i64 x.op.prio,.int .u64 x.op.ttl,.slice A7 x.op.users.length c7,.int .i64 x.stripe,.int .u64 x.by_,.int .i64 x.began,.int .i64 x.placed,.int .i64 x.ended,.int .i64 x.reply.err,.slice A14 x.reply.values.length c14,.slice A21 x.reply.events.length c21,.bool x.reply.lost]) rfl)) .nil) (⟨_,rfl,_,_,_,rfl,fhru,fhrv,fhre⟩)
theorem run_All (b:Nat) (t:TW):Cal 24 [.pointer (some ⟨b,0,none⟩)] t No (fun r t' => ∃ b1,r = .func (.func 47) #[] #[.pointer (some ⟨b1,0,none⟩)] ∧ Bk t' b1 [.pointer (some ⟨b,0,none⟩)] 31 (.loc 1)):=by
 refine Cal.en Tryz.func24 rfl Tryz.ntmps24<|WC.rs<|WL.e (Ef.bx (.loc 1) (cs:=[.pointer (some ⟨b,0,none⟩)]) rfl) ?_
 rintro _ t1 ⟨b1,rfl,s1,hb1,nb1,mb1⟩
 exact WL.a rfl<|WL.go<|WC.rs<|WL.f (Fr.mf rfl)<|WL.a rfl<|WL.go<|WC.ret<|WQ.ret rfl (.tmp rfl .nil) (⟨_,rfl,hb1⟩)
theorem run_All1 {rb hb bs b1:Nat} {cv:Value} (Ak:Option Addr) (ck:Nat) (r:RunS) (hl:r.calls.length ≤ 900000) (hsz:∀ x ∈ r.calls,x.op.users.length ≤ 1000000 ∧ x.reply.values.length ≤ 1000000 ∧ x.reply.events.length ≤ 1000000):IterR 47 [.pointer (some ⟨b1,0,none⟩)] (fun t=>Bk t b1 [.pointer (some ⟨rb,0,none⟩)] 31 (.loc 1) ∧ Bk t rb (runC r hb cv bs (.slice Ak r.calls.length ck)) 107 .run ∧ Row t .calls 0 61 kCall (.slice Ak r.calls.length ck) r.calls) r.calls.length (fun i t vs=>∃ x c,r.calls[i]? = some x ∧ kCall.R t x c ∧ vs = [.agg c.toArray]):=by
 intro l J t hstJ hresJ hyJ h0J
 obtain ⟨hb1,hr,hk⟩:=hresJ _ _ h0J
 refine Cal.en Tryz.func47 rfl Tryz.ntmps47<|WC.rs<|WL.r (Rd.ld rfl sc31 (hb1.cell rfl))<|WL.f (Fr.ncP rfl)<|WL.q 7 rfl fa107_7<|WL.r (Rd.ld rfl sc35 (hr.cell rfl))<|WL.f (Fr.ln rfl Tryz.underlying35)<|WL.m rfl<|WL.go<|WC.block ?_
 refine WC.loop (σ:=Nat) (fun j t' => Bk t' b1 [.pointer (some ⟨rb,0,none⟩)] 31 (.loc 1) ∧ Bk t' rb (runC r hb cv bs (.slice Ak r.calls.length ck)) 107 .run ∧ Row t' .calls 0 61 kCall (.slice Ak r.calls.length ck) r.calls ∧ j ≤ r.calls.length ∧ J j t' ∧ True) (fun j=>[(0,.func (.yield l) #[] #[]),(8,.slice Ak r.calls.length ck),(9,.int .i64 (r.calls.length:Int)),(10,.int .i64 (j:Int))]) (fun j=>r.calls.length - j) 0 ⟨rfl,rfl,rfl,rfl,trivial⟩ ⟨hb1,hr,hk,Nat.zero_le _,h0J,trivial⟩ ?_
 rintro j t1 ⟨hb1,hr,hk,hkk,h0J,_⟩
 refine WC.rs<|WL.f (Fr.bo rfl rfl BO.lt)<|WL.go<|WC.seq ?_
 refine WC.condS rfl (fun hcond11=>?_) (fun hcond11=>?_)
 ·have hlt:j < r.calls.length:=by have:=dcT hcond11; omega
  refine WC.skip<|WQ.n<|WC.seq<|WC.block<|WC.rs ?_
  obtain ⟨b2,c2,d2,e2,hc2,⟨uv,vv,ev,rfl,hu,hv,he⟩,hA,hlb2,_⟩:=hk.at_ (List.getElem?_eq_getElem hlt)
  obtain ⟨hAk,_,_⟩:=Value.slice.inj e2
  obtain ⟨z1,z2,z3⟩:=hsz _ (List.getElem_mem hlt)
  obtain ⟨Au,cu,rfl,_⟩:=hu.form
  obtain ⟨Av,cw,rfl,_⟩:=hv.form
  obtain ⟨Ae,ce,rfl,_⟩:=he.form
  rw [← Nat.zero_add (j * kCall.k)] at hA
  refine WL.f (Fr.ix (congrArg (fun A=>some (Value.slice A r.calls.length ck)) hAk) rfl sl35 (by omega) (by omega) (o' := 0 + j * 18) (by simp))<|WL.r (Rd.la rfl ag61 hA)<|WL.e (Ef.al (.loc 4) zr61) ?_
  rintro _ t2 ⟨b4,rfl,s2,hb4,nb4,mb4⟩
  obtain ⟨he,hu,hv⟩:=Q3 (he.n s2) (hu.n s2) (hv.n s2)
  refine WL.e0 (Ef.T [.int .i64 r.calls[j].who,.int .i64 r.calls[j].nth,.int .i64 r.calls[j].op.kind,.string r.calls[j].op.user,.int .i64 r.calls[j].op.id,.int .i64 r.calls[j].op.status,.int .i64 r.calls[j].op.prio,.int .u64 r.calls[j].op.ttl,.slice Au r.calls[j].op.users.length cu,.int .i64 r.calls[j].stripe,.int .u64 r.calls[j].by_,.int .i64 r.calls[j].began,.int .i64 r.calls[j].placed,.int .i64 r.calls[j].ended,.int .i64 r.calls[j].reply.err,.slice Av r.calls[j].reply.values.length cw,.slice Ae r.calls[j].reply.events.length ce,.bool r.calls[j].reply.lost] rfl rfl hb4 sz61 (.inl nb4)) ?_
  rintro _ t3 ⟨u3,s3,hb4'⟩
  have hb4:Bk t3 b4 [.int .i64 r.calls[j].who,.int .i64 r.calls[j].nth,.int .i64 r.calls[j].op.kind,.string r.calls[j].op.user,.int .i64 r.calls[j].op.id,.int .i64 r.calls[j].op.status,.int .i64 r.calls[j].op.prio,.int .u64 r.calls[j].op.ttl,.slice Au r.calls[j].op.users.length cu,.int .i64 r.calls[j].stripe,.int .u64 r.calls[j].by_,.int .i64 r.calls[j].began,.int .i64 r.calls[j].placed,.int .i64 r.calls[j].ended,.int .i64 r.calls[j].reply.err,.slice Av r.calls[j].reply.values.length cw,.slice Ae r.calls[j].reply.events.length ce,.bool r.calls[j].reply.lost] _ _:=hb4'
  clear hb4'
  obtain ⟨hb1,hk,hr⟩:=Q3 (hb1.step (u3.from s2 (.inl mb4)) id) (hk.step (u3.from s2 (.inl mb4)) id id) (hr.step (u3.from s2 (.inl mb4)) id)
  have h0J:=hstJ _ _ _ (u3.from s2 (.inl mb4)) h0J
  obtain ⟨he,hu,hv⟩:=Q3 (he.n s3) (hu.n s3) (hv.n s3)
  refine WL.go<|WC.rsI<|WI.f (Fr.mv rfl)<|WI.r (Rd.la rfl ag61 (hb4.at (vs:=[.int .i64 r.calls[j].who,.int .i64 r.calls[j].nth,.int .i64 r.calls[j].op.kind,.string r.calls[j].op.user,.int .i64 r.calls[j].op.id,.int .i64 r.calls[j].op.status,.int .i64 r.calls[j].op.prio,.int .u64 r.calls[j].op.ttl,.slice Au r.calls[j].op.users.length cu,.int .i64 r.calls[j].stripe,.int .u64 r.calls[j].by_,.int .i64 r.calls[j].began,.int .i64 r.calls[j].placed,.int .i64 r.calls[j].ended,.int .i64 r.calls[j].reply.err,.slice Av r.calls[j].reply.values.length cw,.slice Ae r.calls[j].reply.events.length ce,.bool r.calls[j].reply.lost]) rfl))<|WI.e (Ef.call rfl en48 (run_copied _ hu hv he z1 z2 z3) (fun _ h=>h.elim)) ?_
  rintro _ t4 ⟨s4,c16,rfl,hR⟩
  obtain ⟨hb1,hk,hr⟩:=Q3 (hb1.n s4) (hk.n s4) (hr.n s4)
  have h0J:=hstJ _ _ _ s4 h0J
  refine WI.y rfl rfl (hyJ _ _ _ hlt ⟨_,c16,List.getElem?_eq_getElem hlt,hR,rfl⟩ h0J) ?_
  rintro _ t5 ⟨s5,rfl,h0J⟩
  obtain ⟨hb1,hr,hk⟩:=hresJ _ _ h0J
  refine WI.f (Fr.un_not rfl)<|WI.gow<|WC.condF<|WC.skip<|WQ.bn<|WQ.n<|WC.rg<|WL.f (Fr.bo rfl rfl (BO.add (by omega) (by omega)))<|WL.m rfl<|WL.nil ?_
  exact WQ.again (j + 1) ⟨rfl,rfl,rfl,rfl,trivial⟩ ⟨hb1,hr,hk,hlt,h0J,trivial⟩ (by omega)
 have hge:j = r.calls.length:=by have:=dcF hcond11; omega
 exact WC.exit<|WQ.tx<|WQ.tx<|WQ.bx<|WQ.end_ rfl .nil (by rw [hge] at h0J; exact h0J)
theorem run_Calls {rb:Nat} {r:RunS} (t:TW) (hR:IsRun t rb r) (hl:r.calls.length ≤ 900000) (hsz:∀ x ∈ r.calls,x.op.users.length ≤ 1000000 ∧ x.reply.values.length ≤ 1000000 ∧ x.reply.events.length ≤ 1000000):Cal 10 [.pointer (some ⟨rb,0,none⟩)] t No (fun v t' => Sl t' kCall v r.calls):=by
 obtain ⟨N,hN⟩:=t.fresh
 have hz:t.w.heap.size ≤ t.w.heap.size:=Nat.le_refl _
 obtain ⟨hb,cv,bs,kv,ps,hr,-,-,-,-,hk⟩:=hR.out
 obtain ⟨Ak,ck,rfl,_⟩:=hk.form
 refine Cal.enterM Tryz.func10 rfl Tryz.ntmps10 (by simp)<|WC.rs<|WL.a rfl<|WL.go<|WC.rs<|WL.e (Ef.al (.nw N 3) zr35) ?_
 rintro _ t1 ⟨b3,rfl,s1,hb3,nb3,mb3⟩
 obtain ⟨hk,hr,hz⟩:=Q3 (hk.n s1) (hr.n s1) (Nat.le_trans hz s1.size)
 refine WL.go<|WC.seq<|WC.rs<|WL.m rfl<|WL.e (Ef.call rfl en24 (run_All _ _) (fun _ h=>h.elim)) ?_
 rintro _ t2 ⟨s2,b1,rfl,h1⟩
 obtain ⟨hb3,hk,hr,hz⟩:=Q4 (hb3.n s2) (hk.n s2) (hr.n s2) (Nat.le_trans hz s2.size)
 refine WL.go<|WC.block ?_
 refine WC.rangeR (N:=N) (n:=r.calls.length) (Er:=fun i t vs=>∃ x c,r.calls[i]? = some x ∧ kCall.R t x c ∧ vs = [.agg c.toArray]) (fun z=>z = .nw N 1 ∨ z = .nw N 3) (fun i t' => Bk t' rb [.pointer (some ⟨hb,0,none⟩),cv,.pointer (some ⟨bs,0,none⟩),.int .i64 r.sweep,.int .i64 r.n,.int .i64 r.ticks,.int .i64 r.sweeps,.slice Ak r.calls.length ck] 107 (.run) ∧ Row t' .calls 0 61 kCall (.slice Ak r.calls.length ck) r.calls ∧ t.w.heap.size ≤ t'.w.heap.size ∧ Bk t' b1 [.pointer (some ⟨rb,0,none⟩)] 31 (.loc 1) ∧ (∃ A c,Bk t' b3 [.slice A (r.calls.take i).length c] 35 (.nw N 3) ∧ Row t' (.nw N 1) t.w.heap.size 61 kCall (.slice A (r.calls.take i).length c) (r.calls.take i)) ∧ True) rfl rfl en47 (run_All1 (rb:=rb) (hb:=hb) (bs:=bs) (cv:=cv) Ak ck r hl hsz) hN ((by rintro (h | h) <;> cases h)) (fun q hq=>.inr fun k hk=>by rcases hq with rfl | rfl <;> exact hN k hk _) ?_ ?_ ⟨hr,hk,hz,h1,⟨_,_,hb3,Row.nil _ _ _ _ _⟩,trivial⟩ (by rintro i t vs ⟨x,c,_,_,rfl⟩; rfl) rfl ?_ ?_
 ·rintro i ta tb sq ⟨hr,hk,hz,h1,hI,_⟩
  obtain ⟨h1,hk,hr,hz⟩:=Q4 (h1.n sq) (hk.n sq) (hr.n sq) (Nat.le_trans hz sq.size)
  have hI:=Exists.elim hI fun A1 h=>Exists.elim h fun c1 h=>Exists.intro A1 (Exists.intro c1 (And.intro (h.1.step sq nofun) (h.2.step sq nofun nofun)))
  exact ⟨hr,hk,hz,h1,hI,trivial⟩
 ·rintro i ta ⟨hr,hk,hz,h1,hI,_⟩
  exact ⟨h1,hr,hk⟩
 ·rintro i l t3 _ hi ⟨x,c,hix,⟨uv,vv,ev,rfl,hu,hv,he⟩,rfl⟩ ⟨hr,hk,hz,h1,hI,_⟩
  obtain ⟨Au,cu,rfl,_⟩:=hu.form
  obtain ⟨Av,cw,rfl,_⟩:=hv.form
  obtain ⟨Ae,ce,rfl,_⟩:=he.form
  obtain ⟨A1,c1,hb3,ho⟩:=hI
  have hsu:r.calls.take i ++ [x] = r.calls.take (i + 1):=by rw [List.take_succ_eq_append_getElem hi]; rw [List.getElem?_eq_getElem hi] at hix; rw [Option.some.inj hix]
  refine WCI.rg<|WI.e (Ef.al (.loc 4) zr61) ?_
  rintro _ t4 ⟨b4,rfl,s4,hb4,nb4,mb4⟩
  obtain ⟨h1,hb3,he,hk,ho,hr,hu,hv,hz⟩:=Q9 (h1.n s4) (hb3.n s4) (he.n s4) (hk.n s4) (ho.n s4) (hr.n s4) (hu.n s4) (hv.n s4) (Nat.le_trans hz s4.size)
  refine WI.e0 (Ef.T [.int .i64 x.who,.int .i64 x.nth,.int .i64 x.op.kind,.string x.op.user,.int .i64 x.op.id,.int .i64 x.op.status,.int .i64 x.op.prio,.int .u64 x.op.ttl,.slice Au x.op.users.length cu,.int .i64 x.stripe,.int .u64 x.by_,.int .i64 x.began,.int .i64 x.placed,.int .i64 x.ended,.int .i64 x.reply.err,.slice Av x.reply.values.length cw,.slice Ae x.reply.events.length ce,.bool x.reply.lost] rfl rfl hb4 sz61 (.inl nb4)) ?_
  rintro _ t5 ⟨u5,s5,hb4'⟩
  have hb4:Bk t5 b4 [.int .i64 x.who,.int .i64 x.nth,.int .i64 x.op.kind,.string x.op.user,.int .i64 x.op.id,.int .i64 x.op.status,.int .i64 x.op.prio,.int .u64 x.op.ttl,.slice Au x.op.users.length cu,.int .i64 x.stripe,.int .u64 x.by_,.int .i64 x.began,.int .i64 x.placed,.int .i64 x.ended,.int .i64 x.reply.err,.slice Av x.reply.values.length cw,.slice Ae x.reply.events.length ce,.bool x.reply.lost] _ _:=hb4'
  clear hb4'
  obtain ⟨h1,hb3,he,hk,ho,hr,hu,hv,hz⟩:=Q9 (h1.n s5) (hb3.n s5) (he.n s5) (hk.n s5) (ho.n s5) (hr.n s5) (hu.n s5) (hv.n s5) (Nat.le_trans hz s5.size)
  refine WI.nil ?_
  refine WQ.asg fun t6 s6=>?_
  obtain ⟨h1,hb3,hb4,he,hk,ho,hr,hu,hv,hz⟩:=Q10 (h1.n s6) (hb3.n s6) (hb4.n s6) (he.n s6) (hk.n s6) (ho.n s6) (hr.n s6) (hu.n s6) (hv.n s6) (Nat.le_trans hz s6.size)
  refine WCI.block<|WCI.rg<|WI.r (Rd.ld rfl sc35 (hb3.cell rfl))<|WI.r (Rd.la rfl ag61 (hb4.at (vs:=[.int .i64 x.who,.int .i64 x.nth,.int .i64 x.op.kind,.string x.op.user,.int .i64 x.op.id,.int .i64 x.op.status,.int .i64 x.op.prio,.int .u64 x.op.ttl,.slice Au x.op.users.length cu,.int .i64 x.stripe,.int .u64 x.by_,.int .i64 x.began,.int .i64 x.placed,.int .i64 x.ended,.int .i64 x.reply.err,.slice Av x.reply.values.length cw,.slice Ae x.reply.events.length ce,.bool x.reply.lost]) rfl))<|WI.e (Ef.bs (.loc 10) (vs:=[(0,.agg #[.int .i64 x.who,.int .i64 x.nth,.int .i64 x.op.kind,.string x.op.user,.int .i64 x.op.id,.int .i64 x.op.status,.int .i64 x.op.prio,.int .u64 x.op.ttl,.slice Au x.op.users.length cu,.int .i64 x.stripe,.int .u64 x.by_,.int .i64 x.began,.int .i64 x.placed,.int .i64 x.ended,.int .i64 x.reply.err,.slice Av x.reply.values.length cw,.slice Ae x.reply.events.length ce,.bool x.reply.lost])]) (cs:=[.int .i64 x.who,.int .i64 x.nth,.int .i64 x.op.kind,.string x.op.user,.int .i64 x.op.id,.int .i64 x.op.status,.int .i64 x.op.prio,.int .u64 x.op.ttl,.slice Au x.op.users.length cu,.int .i64 x.stripe,.int .u64 x.by_,.int .i64 x.began,.int .i64 x.placed,.int .i64 x.ended,.int .i64 x.reply.err,.slice Av x.reply.values.length cw,.slice Ae x.reply.events.length ce,.bool x.reply.lost]) (e:=61) rfl (fun w=>by kernel_rfl)) ?_
  rintro _ t7 ⟨b10,rfl,s7,hb10,nb10,_⟩
  obtain ⟨h1,hb3,he,hk,ho,hr,hu,hv,hz⟩:=Q9 (h1.n s7) (hb3.n s7) (he.n s7) (hk.n s7) (ho.n s7) (hr.n s7) (hu.n s7) (hv.n s7) (Nat.le_trans hz s7.size)
  refine WI.e (Ef.ap1 (dk:=kCall) (y1:=x) rfl rfl hb10 ⟨_,_,_,rfl,hu,hv,he⟩ sl35 el61 (by decide) ho hz (by rw [List.length_take]; omega) (by decide) nofun (.inr (.inl rfl))) ?_
  rintro v11 t8 ⟨s8,ho2⟩
  obtain ⟨h1,hb3,hk,hr,hz⟩:=Q5 (h1.n s8) (hb3.n s8) (hk.n s8) (hr.n s8) (Nat.le_trans hz s8.size)
  rw [hsu] at ho2
  obtain ⟨A2,c2,rfl,_⟩:=ho2.form
  refine WI.e0 (Ef.T [.slice A2 (r.calls.take (i + 1)).length c2] rfl rfl hb3 sz35 (.inr (.inr rfl))) ?_
  rintro _ t9 ⟨u9,s9,hb3'⟩
  have hb3:Bk t9 b3 [.slice A2 (r.calls.take (i + 1)).length c2] _ _:=hb3'
  clear hb3'
  obtain ⟨h1,hk,ho2,hr,hz⟩:=Q5 (h1.n s9) (hk.n s9) (ho2.n s9) (hr.n s9) (Nat.le_trans hz s9.size)
  exact WI.nil<|WQ.bn<|WQ.round ⟨hr,hk,hz,h1,⟨_,_,hb3,ho2⟩,trivial⟩
 rintro D t10 ⟨hr,hk,hz,h1,hI,_⟩ hD
 rw [List.take_length] at hI
 obtain ⟨A1,c1,hb3,ho⟩:=hI
 refine WQ.bn<|WQ.n<|WC.rs<|WL.r (Rd.ld rfl sc35 (hb3.cell rfl))<|WL.a rfl<|WL.go<|WC.ret ?_
 have f2:=ho.freeze nofun
 have q2:=TW.tagv_step _ (g' := .fz) ho.tags
 refine WQ.tag _ .fz (.inl ho.base) ?_
 have hD:=hD.n q2
 refine WQ.retM rfl hD hN fun tz sz=>?_
 obtain ⟨f2,hz⟩:=Q2 (f2.n sz) (Nat.le_trans hz sz.size)
 exact ⟨_,(.tmp rfl .nil),f2⟩
def shortOp (x:Opr):Bool:=decide (x.user.size ≤ 40) && decide (x.users.length ≤ 20) && x.users.all fun u=>decide (u.size ≤ 40)
def shA (x:Opr):Bool:=decide (x.user.size ≤ 40) && decide (x.users.length ≤ 20)
theorem shortOp_A (x:Opr):shortOp x = (shA x && x.users.all fun u=>decide (u.size ≤ 40)):=rfl
def shortS (s:Script) (n:Int):Bool:=decide (s.clients.length ≤ 20) && decide ((s.picks.length:Int) ≤ n) && s.clients.all fun l=>decide (l.length ≤ 50) && l.all shortOp
theorem ref_Short (x:Opr) (u:Value) (t:TW) (hu:Sl t kStr u x.users):Cal 21 [.agg (opC x u).toArray] t No (fun r _=>r = .bool (shortOp x)):=by
 obtain ⟨A,cu,rfl,hcu⟩:=hu.form
 refine Cal.en Tryz.func21 rfl Tryz.ntmps21<|WC.rs<|WL.e (Ef.bx (.loc 1) (cs:=[.int .i64 x.kind,.string x.user,.int .i64 x.id,.int .i64 x.status,.int .i64 x.prio,.int .u64 x.ttl,.slice A x.users.length cu]) rfl) ?_
 rintro _ t1 ⟨b1,rfl,s1,hb1,nb1,mb1⟩
 have hu:=hu.n s1
 refine WL.a rfl<|WL.go<|WC.seq ?_
 refine WC.seqJ (σ:=Unit) (fun _ t' => Sl t' kStr (.slice A x.users.length cu) x.users ∧ Bk t' b1 [.int .i64 x.kind,.string x.user,.int .i64 x.id,.int .i64 x.status,.int .i64 x.prio,.int .u64 x.ttl,.slice A x.users.length cu] 56 (.loc 1) ∧ True) (fun _=>[(1,.pointer (some ⟨b1,0,none⟩)),(2,.bool false),(13,.bool (!shA x))]) ?_ ?_
 ·refine WC.rg<|WL.q 1 rfl fa56_1<|WL.r (Rd.ld rfl sc9 (hb1.cell rfl))<|WL.f (Fr.lns rfl Tryz.underlying9)<|WL.f (Fr.bo rfl rfl BO.gt)<|WL.m rfl ?_
  refine WL.pin 8 rfl (fun hp8=>?_) (fun hp8=>?_)
  ·exact WL.s<|WL.s<|WL.s<|WL.s<|WL.f (Fr.pkT rfl rfl)<|WL.nil<|WQ.join () ⟨rfl,rfl,by rw [show shA x = false by have:=dcT hp8; unfold shA; rw [decide_eq_false (by omega)]; rfl]; rfl,trivial⟩ ⟨hu,hb1,trivial⟩
  exact WL.q 6 rfl fa56_6<|WL.r (Rd.ld rfl sc54 (hb1.cell rfl))<|WL.f (Fr.ln rfl Tryz.underlying54)<|WL.f (Fr.bo rfl rfl BO.gt)<|WL.f (Fr.pkF rfl rfl)<|WL.nil<|WQ.join () ⟨rfl,rfl,by rw [show (!shA x) = decide (20 < (x.users.length:Int)) by have:=dcF hp8; unfold shA; rw [decide_eq_true (show x.user.size ≤ 40 by omega),Bool.true_and,← decide_not]; exact decide_eq_decide.2 (by omega)]; rfl,trivial⟩ ⟨hu,hb1,trivial⟩
 rintro _ t2 ⟨hu,hb1,_⟩
 refine WC.condS rfl (fun hcond13=>?_) (fun hcond13=>?_)
 ·exact WC.rs<|WL.a rfl<|WL.go<|WC.ret<|WQ.tr<|WQ.ret rfl (.tmp rfl .nil) (by rw [shortOp_A,show shA x = false by simpa using hcond13]; rfl)
 have h13:shA x = true:=by simpa using hcond13
 have hs20:x.users.length ≤ 20:=by unfold shA at h13; simp at h13; exact h13.2
 refine WC.skip<|WQ.n<|WC.seq<|WC.rs<|WL.a rfl<|WL.go<|WC.block<|WC.loop (σ:=Nat) (fun k t' => Sl t' kStr (.slice A x.users.length cu) x.users ∧ Bk t' b1 [.int .i64 x.kind,.string x.user,.int .i64 x.id,.int .i64 x.status,.int .i64 x.prio,.int .u64 x.ttl,.slice A x.users.length cu] 56 (.loc 1) ∧ k ≤ x.users.length ∧ (∀ i (h:i < x.users.length),i < k → x.users[i].size ≤ 40) ∧ True) (fun k=>[(1,.pointer (some ⟨b1,0,none⟩)),(3,.int .i64 (k:Int))]) (fun k=>x.users.length - k) 0 ⟨rfl,rfl,trivial⟩ ⟨hu,hb1,Nat.zero_le _,(fun i _ h=>absurd h (Nat.not_lt_zero _)),trivial⟩ ?_
 rintro k t3 ⟨hu,hb1,hk,hall,_⟩
 refine WC.seq<|WC.rs<|WL.m rfl<|WL.q 6 rfl fa56_6<|WL.r (Rd.ld rfl sc54 (hb1.cell rfl))<|WL.f (Fr.ln rfl Tryz.underlying54)<|WL.f (Fr.bo rfl rfl BO.lt)<|WL.go ?_
 refine WC.condS rfl (fun hcond18=>?_) (fun hcond18=>?_)
 ·have hlt:k < x.users.length:=by have:=dcT hcond18; omega
  refine WC.skip<|WQ.n<|WC.seq<|WC.block<|WC.rs<|WL.q 6 rfl fa56_6<|WL.r (Rd.ld rfl sc54 (hb1.cell rfl))<|WL.m rfl ?_
  obtain ⟨b,o,cap,c,e1,hcp,hR,hA,hlb,hfz⟩:=hu.at_ (List.getElem?_eq_getElem hlt)
  obtain ⟨rfl,_,rfl⟩:=Value.slice.inj e1
  obtain rfl:c = [.string x.users[k]]:=hR
  refine WL.f (Fr.ix rfl rfl sl54 (by omega) (by omega))<|WL.r (Rd.ld rfl sc9 (hA.one rfl))<|WL.f (Fr.lns rfl Tryz.underlying9)<|WL.f (Fr.bo rfl rfl BO.gt)<|WL.go ?_
  refine WC.condS rfl (fun hcond27=>?_) (fun hcond27=>?_)
  ·have hbig:=dcT hcond27
   exact WC.rs<|WL.a rfl<|WL.go<|WC.ret<|WQ.br<|WQ.tr<|WQ.tr<|WQ.br<|WQ.tr<|WQ.ret rfl (.tmp rfl .nil) (by rw [shortOp_A,show (x.users.all fun u=>decide (u.size ≤ 40)) = false from List.all_eq_false.2 ⟨_,List.getElem_mem hlt,by simp; omega⟩,Bool.and_false]; rfl)
  have hsm:=dcF hcond27
  have hall2:∀ i (h:i < x.users.length),i < k + 1 → x.users[i].size ≤ 40:=fun i h hi=>by
   rcases Nat.lt_succ_iff_lt_or_eq.1 hi with hi | rfl
   ·exact hall i h hi
   omega
  exact WC.skip<|WQ.bn<|WQ.n<|WC.rg<|WL.m rfl<|WL.f (Fr.bo rfl rfl (BO.add (by omega) (by omega)))<|WL.a rfl<|WL.nil<|WQ.again (k + 1) ⟨rfl,rfl,trivial⟩ ⟨hu,hb1,hlt,hall2,trivial⟩ (by omega)
 have hge:k = x.users.length:=by have:=dcF hcond18; omega
 exact WC.exit<|WQ.tx<|WQ.tx<|WQ.bx<|WQ.n<|WC.rs<|WL.a rfl<|WL.go<|WC.ret<|WQ.ret rfl (.tmp rfl .nil) (by rw [shortOp_A,show shA x = true by simpa using hcond13,show (x.users.all fun u=>decide (u.size ≤ 40)) = true from List.all_eq_true.2 fun z hz=>by { obtain ⟨i,hi,rfl⟩:=List.getElem_of_mem hz; exact decide_eq_true (hall i hi (by omega)) }]; rfl)
def shB (s:Script) (n:Int):Bool:=decide (s.clients.length ≤ 20) && decide ((s.picks.length:Int) ≤ n)
theorem shortS_B (s:Script) (n:Int):shortS s n = (shB s n && s.clients.all fun l=>decide (l.length ≤ 50) && l.all shortOp):=rfl
theorem shortS_no {s:Script} {n:Int} {k:Nat} (h:k < s.clients.length) (hb:(decide (s.clients[k].length ≤ 50) && s.clients[k].all shortOp) = false):shortS s n = false:=by
 rw [shortS_B,show (s.clients.all fun l=>decide (l.length ≤ 50) && l.all shortOp) = false from List.all_eq_false.2 ⟨_,List.getElem_mem h,by rw [hb]; decide⟩,Bool.and_false]
theorem all_upto {α:Type} {l:List α} {p:α → Bool} {k:Nat} (hk:k = l.length) (h:∀ i (h:i < l.length),i < k → p l[i] = true):l.all p = true:=
 List.all_eq_true.2 fun z hz=>by
  obtain ⟨i,hi,rfl⟩:=List.getElem_of_mem hz
  exact h i hi (by omega)
theorem upto_succ {α:Type} {l:List α} {p:α → Bool} {k:Nat} (h:∀ i (h:i < l.length),i < k → p l[i] = true) (hk:k < l.length) (h2:p l[k] = true):∀ i (h:i < l.length),i < k + 1 → p l[i] = true:=fun i hi h3=>by
 rcases Nat.lt_succ_iff_lt_or_eq.1 h3 with h4 | rfl
 ·exact h i hi h4
 ·exact h2
theorem upto0 {α:Type} {l:List α} {p:α → Bool}:∀ i (h:i < l.length),i < 0 → p l[i] = true:=fun i _ h=>absurd h (Nat.not_lt_zero _)
def dnF (c:ClientS):Bool:=c.now.isNone && !decide ((c.at_:Int) < (c.ops.length:Int))
def rDone (r:RunS):Bool:=r.clients.all dnF
abbrev goodC (l:List Opr):Bool:=decide (l.length ≤ 50) && l.all shortOp
theorem ref_Short12 {s:Script} {cv pv:Value} (n:Int) (t:TW) (hc:Sl t (kSl kOp) cv s.clients) (hp:Sl t kPick pv s.picks):Cal 8 [.agg (cfgC s.cfg ++ [cv,pv]).toArray,.int .i64 n] t No (fun r _=>r = .bool (shortS s n)):=by
 obtain ⟨Ac,cc,rfl,_⟩:=hc.form
 obtain ⟨Ap,cp,rfl,_⟩:=hp.form
 refine Cal.en Tryz.func8 rfl Tryz.ntmps8<|WC.rs<|WL.e (Ef.bx (.loc 2) (cs:=[.int .i64 s.cfg.stripes,.int .i64 s.cfg.sessions,.int .i64 s.cfg.queue,.int .i64 s.cfg.watches,.int .i64 s.cfg.retries,.int .u64 s.cfg.epochs,.int .u64 s.cfg.start,.slice Ac s.clients.length cc,.slice Ap s.picks.length cp]) rfl) ?_
 rintro _ t1 ⟨b2,rfl,s1,hb2,nb2,mb2⟩
 have hc:=hc.n s1
 refine WL.a rfl<|WL.go<|WC.seq ?_
 refine WC.seqJ (σ:=Unit) (fun _ t' => Sl t' (kSl kOp) (.slice Ac s.clients.length cc) s.clients ∧ Bk t' b2 [.int .i64 s.cfg.stripes,.int .i64 s.cfg.sessions,.int .i64 s.cfg.queue,.int .i64 s.cfg.watches,.int .i64 s.cfg.retries,.int .u64 s.cfg.epochs,.int .u64 s.cfg.start,.slice Ac s.clients.length cc,.slice Ap s.picks.length cp] 28 (.loc 2) ∧ True) (fun _=>[(2,.pointer (some ⟨b2,0,none⟩)),(4,.bool false),(17,.bool (!shB s n))]) ?_ ?_
 ·refine WC.rg<|WL.q 7 rfl fa28_1<|WL.r (Rd.ld rfl sc25 (hb2.cell rfl))<|WL.f (Fr.ln rfl Tryz.underlying25)<|WL.f (Fr.bo rfl rfl BO.gt)<|WL.m rfl ?_
  refine WL.pin 11 rfl (fun hp11=>?_) (fun hp11=>?_)
  ·exact WL.s<|WL.s<|WL.s<|WL.s<|WL.s<|WL.f (Fr.pkT rfl rfl)<|WL.nil<|WQ.join () ⟨rfl,rfl,by rw [show shB s n = false by have:=dcT hp11; unfold shB; rw [decide_eq_false (by omega)]; rfl]; rfl,trivial⟩ ⟨hc,hb2,trivial⟩
  exact WL.q 8 rfl fa28_2<|WL.r (Rd.ld rfl sc26 (hb2.cell rfl))<|WL.f (Fr.ln rfl Tryz.underlying26)<|WL.m rfl<|WL.f (Fr.bo rfl rfl BO.gt)<|WL.f (Fr.pkF rfl rfl)<|WL.nil<|WQ.join () ⟨rfl,rfl,by rw [show (!shB s n) = decide (n < (s.picks.length:Int)) by have:=dcF hp11; unfold shB; rw [decide_eq_true (show s.clients.length ≤ 20 by omega),Bool.true_and,← decide_not]; exact decide_eq_decide.2 (by omega)]; rfl,trivial⟩ ⟨hc,hb2,trivial⟩
 rintro _ t2 ⟨hc,hb2,_⟩
 refine WC.condS rfl (fun hcond17=>?_) (fun hcond17=>?_)
 ·exact WC.rs<|WL.a rfl<|WL.go<|WC.ret<|WQ.tr<|WQ.ret rfl (.tmp rfl .nil) (by rw [shortS_B,show shB s n = false by simpa using hcond17]; rfl)
 have h17:shB s n = true:=by simpa using hcond17
 have hs20:s.clients.length ≤ 20:=by unfold shB at h17; simp at h17; exact h17.1
 refine WC.skip<|WQ.n<|WC.seq<|WC.rs<|WL.a rfl<|WL.go<|WC.block<|WC.loop (σ:=Nat) (fun k t' => Sl t' (kSl kOp) (.slice Ac s.clients.length cc) s.clients ∧ Bk t' b2 [.int .i64 s.cfg.stripes,.int .i64 s.cfg.sessions,.int .i64 s.cfg.queue,.int .i64 s.cfg.watches,.int .i64 s.cfg.retries,.int .u64 s.cfg.epochs,.int .u64 s.cfg.start,.slice Ac s.clients.length cc,.slice Ap s.picks.length cp] 28 (.loc 2) ∧ k ≤ s.clients.length ∧ (∀ i (h:i < s.clients.length),i < k → goodC s.clients[i] = true) ∧ True) (fun k=>[(2,.pointer (some ⟨b2,0,none⟩)),(5,.int .i64 (k:Int))]) (fun k=>s.clients.length - k) 0 ⟨rfl,rfl,trivial⟩ ⟨hc,hb2,Nat.zero_le _,upto0,trivial⟩ ?_
 rintro k t3 ⟨hc,hb2,hk,hall,_⟩
 refine WC.seq<|WC.rs<|WL.m rfl<|WL.q 7 rfl fa28_1<|WL.r (Rd.ld rfl sc25 (hb2.cell rfl))<|WL.f (Fr.ln rfl Tryz.underlying25)<|WL.f (Fr.bo rfl rfl BO.lt)<|WL.go ?_
 refine WC.condS rfl (fun hcond22=>?_) (fun hcond22=>?_)
 ·have hlt:k < s.clients.length:=by have:=dcT hcond22; omega
  refine WC.skip<|WQ.n<|WC.seq<|WC.block<|WC.seq<|WC.rs<|WL.q 7 rfl fa28_1<|WL.r (Rd.ld rfl sc25 (hb2.cell rfl))<|WL.m rfl ?_
  obtain ⟨bo,oo,capo,co,eo,hcpo,⟨ov,rfl,ho⟩,hAo,hlbo,hfzo⟩:=hc.at_ (List.getElem?_eq_getElem hlt)
  obtain ⟨hAo1,_,_⟩:=Value.slice.inj eo
  obtain ⟨Ao,cpo,rfl,_⟩:=ho.form
  refine WL.f (Fr.ix (congrArg (fun A=>some (Value.slice A s.clients.length cc)) hAo1) rfl sl25 (by omega) (by omega) (o' := oo + k * 1) (by simp))<|WL.r (Rd.ld rfl sc76 (hAo.one rfl))<|WL.f (Fr.ln rfl Tryz.underlying76)<|WL.f (Fr.bo rfl rfl BO.gt)<|WL.go ?_
  refine WC.condS rfl (fun hcond31=>?_) (fun hcond31=>?_)
  ·have hbig:=dcT hcond31
   refine WC.rs<|WL.a rfl<|WL.go<|WC.ret<|WQ.tr<|WQ.br<|WQ.tr<|WQ.tr<|WQ.br<|WQ.tr ?_
   exact WQ.ret rfl (.tmp rfl .nil) (by rw [shortS_no hlt (by rw [decide_eq_false (by omega)]; rfl)]; rfl)
  have hsm:=dcF hcond31
  refine WC.skip<|WQ.n<|WC.rs<|WL.a rfl<|WL.go<|WC.block<|WC.loop (σ:=Nat) (fun m t' => Sl t' (kSl kOp) (.slice Ac s.clients.length cc) s.clients ∧ Bk t' b2 [.int .i64 s.cfg.stripes,.int .i64 s.cfg.sessions,.int .i64 s.cfg.queue,.int .i64 s.cfg.watches,.int .i64 s.cfg.retries,.int .u64 s.cfg.epochs,.int .u64 s.cfg.start,.slice Ac s.clients.length cc,.slice Ap s.picks.length cp] 28 (.loc 2) ∧ m ≤ s.clients[k].length ∧ (∀ i (h:i < s.clients[k].length),i < m → shortOp s.clients[k][i] = true) ∧ True) (fun m=>[(2,.pointer (some ⟨b2,0,none⟩)),(5,.int .i64 (k:Int)),(6,.int .i64 (m:Int))]) (fun m=>s.clients[k].length - m) 0 ⟨rfl,rfl,rfl,trivial⟩ ⟨hc,hb2,Nat.zero_le _,upto0,trivial⟩ ?_
  rintro m t4 ⟨hc,hb2,hm,hall2,_⟩
  refine WC.seq<|WC.rs<|WL.m rfl<|WL.q 7 rfl fa28_1<|WL.r (Rd.ld rfl sc25 (hb2.cell rfl))<|WL.m rfl ?_
  obtain ⟨boa,ooa,capoa,coa,eoa,hcpoa,⟨ova,rfl,hoa⟩,hAoa,hlboa,hfzoa⟩:=hc.at_ (List.getElem?_eq_getElem hlt)
  obtain ⟨hAo1a,_,_⟩:=Value.slice.inj eoa
  obtain ⟨Aoa,cpoa,rfl,_⟩:=hoa.form
  refine WL.f (Fr.ix (congrArg (fun A=>some (Value.slice A s.clients.length cc)) hAo1a) rfl sl25 (by omega) (by omega) (o' := ooa + k * 1) (by simp))<|WL.r (Rd.ld rfl sc76 (hAoa.one rfl))<|WL.f (Fr.ln rfl Tryz.underlying76)<|WL.f (Fr.bo rfl rfl BO.lt)<|WL.go ?_
  refine WC.condS rfl (fun hcond39=>?_) (fun hcond39=>?_)
  ·have hlt2:m < s.clients[k].length:=by have:=dcT hcond39; omega
   refine WC.skip<|WQ.n<|WC.seq<|WC.block<|WC.rs<|WL.q 7 rfl fa28_1<|WL.r (Rd.ld rfl sc25 (hb2.cell rfl))<|WL.m rfl ?_
   obtain ⟨bob,oob,capob,cob,eob,hcpob,⟨ovb,rfl,hob⟩,hAob,hlbob,hfzob⟩:=hc.at_ (List.getElem?_eq_getElem hlt)
   obtain ⟨hAo1b,_,_⟩:=Value.slice.inj eob
   obtain ⟨Aob,cpob,rfl,_⟩:=hob.form
   refine WL.f (Fr.ix (congrArg (fun A=>some (Value.slice A s.clients.length cc)) hAo1b) rfl sl25 (by omega) (by omega) (o' := oob + k * 1) (by simp))<|WL.r (Rd.ld rfl sc76 (hAob.one rfl))<|WL.m rfl ?_
   obtain ⟨bz,oz,capz,cz,ez,hcpz,⟨uv,rfl,hu⟩,hAz,hlbz,hfzz⟩:=hob.at_ (List.getElem?_eq_getElem hlt2)
   obtain ⟨hAz1,_,_⟩:=Value.slice.inj ez
   refine WL.f (Fr.ix (congrArg (fun A=>some (Value.slice A s.clients[k].length cpob)) hAz1) rfl sl76 (by omega) (by omega) (o' := oz + m * 7) (by simp))<|WL.r (Rd.la rfl ag56 hAz)<|WL.e (Ef.call rfl en21 (ref_Short _ _ _ hu) (fun _ h=>h.elim)) ?_
   rintro _ t5 ⟨s5,rfl⟩
   obtain ⟨hb2,hc⟩:=Q2 (hb2.n s5) (hc.n s5)
   refine WL.f (Fr.un_not rfl)<|WL.go ?_
   refine WC.condS rfl (fun hcond51=>?_) (fun hcond51=>?_)
   ·have hbd:=notE hcond51
    refine WC.rs<|WL.a rfl<|WL.go<|WC.ret<|WQ.br<|WQ.tr<|WQ.tr<|WQ.br<|WQ.br<|WQ.tr ?_
    exact WQ.tr<|WQ.br<|WQ.tr<|WQ.ret rfl (.tmp rfl .nil) (by rw [shortS_no hlt (by rw [show s.clients[k].all shortOp = false from List.all_eq_false.2 ⟨_,List.getElem_mem hlt2,by rw [hbd]; decide⟩,Bool.and_false])]; rfl)
   have hgd2:shortOp s.clients[k][m] = true:=notE hcond51
   exact WC.skip<|WQ.bn<|WQ.n<|WC.rg<|WL.m rfl<|WL.f (Fr.bo rfl rfl (BO.add (by omega) (by omega)))<|WL.a rfl<|WL.nil<|WQ.again (m + 1) ⟨rfl,rfl,rfl,trivial⟩ ⟨hc,hb2,hlt2,upto_succ hall2 hlt2 hgd2,trivial⟩ (by omega)
  have hge2:m = s.clients[k].length:=by have:=dcF hcond39; omega
  have hgd:goodC s.clients[k] = true:=by unfold goodC; rw [decide_eq_true (by omega),all_upto hge2 hall2]; rfl
  refine WC.exit<|WQ.tx<|WQ.tx<|WQ.bx<|WQ.bn<|WQ.n<|WC.rg<|WL.m rfl<|WL.f (Fr.bo rfl rfl (BO.add (by omega) (by omega)))<|WL.a rfl ?_
  exact WL.nil<|WQ.again (k + 1) ⟨rfl,rfl,trivial⟩ ⟨hc,hb2,hlt,upto_succ hall hlt hgd,trivial⟩ (by omega)
 have hge:k = s.clients.length:=by have:=dcF hcond22; omega
 exact WC.exit<|WQ.tx<|WQ.tx<|WQ.bx<|WQ.n<|WC.rs<|WL.a rfl<|WL.go<|WC.ret<|WQ.ret rfl (.tmp rfl .nil) (by rw [shortS_B,h17,all_upto hge hall]; rfl)
theorem run_Done {rb:Nat} {r:RunS} (t:TW) (hR:IsRun t rb r) (hlc:r.clients.length ≤ 1000):Cal 20 [.pointer (some ⟨rb,0,none⟩)] t No (fun v t' => v = .bool (rDone r)):=by
 obtain ⟨hb,cv,bs,kv,ps,hr,hH,hps,hcls,hsw,hk⟩:=hR.out
 obtain ⟨Ap,cp,ecv,_⟩:=hps.form
 rw [hcls.1] at ecv
 subst ecv
 refine Cal.en Tryz.func20 rfl Tryz.ntmps20<|WC.rs<|WL.a rfl<|WL.go<|WC.seq<|WC.rs<|WL.m rfl<|WL.f (Fr.ncP rfl)<|WL.q 1 rfl fa107_1<|WL.r (Rd.ld rfl sc104 (hr.cell rfl)) ?_
 refine WL.f (Fr.ln rfl Tryz.underlying104)<|WL.m rfl<|WL.go<|WC.block<|WC.loop (σ:=Nat) (fun k t' => Bk t' rb [.pointer (some ⟨hb,0,none⟩),.slice Ap r.clients.length cp,.pointer (some ⟨bs,0,none⟩),.int .i64 r.sweep,.int .i64 r.n,.int .i64 r.ticks,.int .i64 r.sweeps,kv] 107 (.run) ∧ Sl t' kPtr (.slice Ap r.clients.length cp) ps ∧ Cls t' ps r.clients ∧ k ≤ r.clients.length ∧ (∀ i (h:i < r.clients.length),i < k → dnF r.clients[i] = true) ∧ True) (fun k=>[(8,.slice Ap r.clients.length cp),(9,.int .i64 (r.clients.length:Int)),(10,.int .i64 (k:Int))]) (fun k=>r.clients.length - k) 0 ⟨rfl,rfl,rfl,trivial⟩ ⟨hr,hps,hcls,Nat.zero_le _,upto0,trivial⟩ ?_
 rintro k t1 ⟨hr,hps,hcls,hk,hal,_⟩
 refine WC.rs<|WL.f (Fr.bo rfl rfl BO.lt)<|WL.go<|WC.seq ?_
 refine WC.condS rfl (fun hcond11=>?_) (fun hcond11=>?_)
 ·have hlt:k < r.clients.length:=by have:=dcT hcond11; omega
  refine WC.skip<|WQ.n<|WC.seq<|WC.block<|WC.rs ?_
  have hci:=List.getElem?_eq_getElem hlt
  obtain ⟨cb,hpi,⟨ov,mb,nv,hc,ho,hM,hN⟩,_⟩:=hcls.at_ hci
  obtain ⟨bq,oq,capq,cq,eq1,hcpq,hRq,hAq,hlbq,hfzq⟩:=hps.at_ hpi
  obtain ⟨hAp,_,_⟩:=Value.slice.inj eq1
  obtain rfl:cq = [.pointer (some ⟨cb,0,none⟩)]:=hRq
  obtain ⟨Ao,co,rfl,_⟩:=ho.form
  refine WL.f (Fr.ix (congrArg (fun A=>some (Value.slice A r.clients.length cp)) hAp) rfl sl104 (by omega) (by omega) (o' := oq + k * 1) (by simp))<|WL.r (Rd.ld rfl sc108 (hAq.one rfl))<|WL.a rfl<|WL.go<|WC.drs (fun w=>At w cb 1 [.int .i64 (r.clients[k].at_:Int)] ∧ True) (.blk (.then_ (.then_ (.blk (.then_ .body))))) (⟨hc.at rfl,trivial⟩) ?_
  obtain ⟨hps,hr⟩:=Q2 (hps.n (TW.drew_step _)) (hr.n (TW.drew_step _))
  have hcls:=hcls.step (TW.drew_step _) (fun _ _ _ h=>h)
  obtain ⟨hN,hc⟩:=Q2 (hN.n (TW.drew_step _)) (hc.n (TW.drew_step _))
  refine DL.m 0 rfl rfl<|DL.fx 1 rfl (Fr.ncP rfl)<|DL.fx 2 rfl (Fr.q 3 rfl fa113_3)<|DL.rx 3 rfl (Rd.ld rfl sc111 (hc.cell rfl))<|DL.fx 4 rfl (Fr.nown rfl hN)<|DL.m 5 rfl rfl ?_
  refine DL.pin 19 rfl (fun hp19=>?_) (fun hp19=>?_)
  ·refine DL.sx 6 rfl<|DL.sx 7 rfl<|DL.sx 8 rfl<|DL.sx 9 rfl<|DL.sx 10 rfl<|DL.sx 11 rfl<|DL.sx 12 rfl<|DL.sx 13 rfl<|DL.sx 14 rfl<|DL.sx 15 rfl ?_
   refine DL.fx 16 rfl (Fr.pkT rfl rfl)<|DL.D<|WQ.n<|WC.condT<|WC.rs<|WL.a rfl<|WL.go<|WC.ret<|WQ.br<|WQ.tr ?_
   exact WQ.tr<|WQ.br<|WQ.tr<|WQ.ret rfl (.tmp rfl .nil) (by rw [show rDone r = false from List.all_eq_false.2 ⟨_,List.getElem_mem hlt,by rw [show dnF r.clients[k] = false by { unfold dnF; rw [show r.clients[k].now.isNone = false by simpa using hp19]; rfl }]; decide⟩]; rfl)
  refine DL.m 6 rfl rfl<|DL.fx 7 rfl (Fr.ncP rfl)<|DL.fx 8 rfl (Fr.q 1 rfl fa113_1)<|DL.m 10 rfl rfl<|DL.fx 11 rfl (Fr.ncP rfl)<|DL.fx 12 rfl (Fr.q 0 rfl fa113_0)<|DL.hx 9 rfl (fun w hw=>Rd.ld rfl sc3 (hw.1.one rfl))<|DL.rx 13 rfl (Rd.ld rfl sc76 (hc.cell rfl))<|DL.fx 14 rfl (Fr.ln rfl Tryz.underlying76)<|DL.fx 15 rfl (Fr.bo rfl rfl BO.lt) ?_
  refine DL.fx 16 rfl (Fr.pkF rfl rfl)<|DL.D<|WQ.n ?_
  refine WC.condS rfl (fun hcond30=>?_) (fun hcond30=>?_)
  ·exact WC.rs<|WL.a rfl<|WL.go<|WC.ret<|WQ.br<|WQ.tr<|WQ.tr<|WQ.br<|WQ.tr<|WQ.ret rfl (.tmp rfl .nil) (by rw [show rDone r = false from List.all_eq_false.2 ⟨_,List.getElem_mem hlt,by rw [show dnF r.clients[k] = false by { unfold dnF; rw [show decide ((r.clients[k].at_:Int) < (r.clients[k].ops.length:Int)) = true from hcond30]; simp }]; decide⟩]; rfl)
  have hpf:dnF r.clients[k] = true:=by unfold dnF; first | (rw [show r.clients[k].now.isNone = true by simpa using hp19,show decide ((r.clients[k].at_:Int) < (r.clients[k].ops.length:Int)) = false from hcond30]; rfl) | (rw [show r.clients[k].now.isNone = true by simpa using hp19_2,show decide ((r.clients[k].at_:Int) < (r.clients[k].ops.length:Int)) = false from hcond30]; rfl)
  exact WC.skip<|WQ.bn<|WQ.n<|WC.rg<|WL.f (Fr.bo rfl rfl (BO.add (by omega) (by omega)))<|WL.m rfl<|WL.nil<|WQ.again (k + 1) ⟨rfl,rfl,rfl,trivial⟩ ⟨hr,hps,hcls,hlt,upto_succ hal hlt hpf,trivial⟩ (by omega)
 have hge:k = r.clients.length:=by have:=dcF hcond11; omega
 exact WC.exit<|WQ.tx<|WQ.tx<|WQ.bx<|WQ.n<|WC.rs<|WL.a rfl<|WL.go<|WC.ret<|WQ.ret rfl (.tmp rfl .nil) (by rw [show rDone r = true from all_upto hge hal]; rfl)
def aU:ByteArray:=⟨#[117]⟩
def aO1:Opr:=⟨1,aU,0,1,0,5,[]⟩
def aO2:Opr:=⟨4,aU,0,0,0,0,[]⟩
def aPk (k:Nat):List Pick:=(List.range k).map fun i=>⟨0,((i / 7:Nat):Int),0⟩
def aS:Script:=⟨⟨2,1,2,1,1,100,0⟩,[[aO1],[aO2]],aPk 11⟩
theorem aS_check:checkS aS = 0:=by decide +kernel
theorem aS_run (fp:Nat → Nat):((runPlay aS fp 11).calls.map fun c=>(c.ended,c.reply.values.map fun p=>p.live)) = [(6,[]),(10,[1])] ∧ rDone (runPlay aS fp 11) = true:=⟨by kernel_rfl,by kernel_rfl⟩
theorem Sl.of_bk2 {α:Type} {dk:Kn α} {e:Nat} {t:TW} {b:Nat} {c1 c2:List Value} {y1 y2:α} (hb:Bk t b (c1 ++ c2) e .fz) (h1:dk.R t y1 c1) (h2:dk.R t y2 c2):Sl t dk (.slice (some ⟨b,0,none⟩) 2 2) [y1,y2]:=by
 refine ⟨_,2,rfl,Nat.le_refl _,fun _=>⟨b,0,rfl,hb.lt,hb.2,fun i x hi=>?_⟩⟩
 match i,hi with
 | 0,hi=>
  obtain rfl:y1 = x:=by simpa using hi
  exact ⟨c1,h1,fun j v hj=>by rw [Nat.zero_mul,Nat.add_zero,Nat.zero_add]; exact hb.cell (by rw [List.getElem?_append_left (List.getElem?_eq_some_iff.1 hj).1]; exact hj)⟩
 | 1,hi=>
  obtain rfl:y2 = x:=by simpa using hi
  exact ⟨c2,h2,fun j v hj=>by rw [Nat.one_mul,Nat.zero_add]; exact hb.cell (by rw [← dk.len h1,List.getElem?_append_right (Nat.le_add_right _ _),Nat.add_sub_cancel_left]; exact hj)⟩
 | i + 2,hi=>simp at hi
theorem run_eqP1 {t e:TypeId} (ht:P.underlying t = some (.pointer e)) (w:World) (b:Nat):(Op.equal t (.pointer (some ⟨b,0,none⟩)) (.pointer none)).run P w = .ok false w:=by
 have h1:∀ k,(Op.equalIn (k + 1) t (.pointer (some ⟨b,0,none⟩)) (.pointer none)).run P w = .ok false w:=fun k=>by
  simp only [Op.equalIn,Sem.run_bind,run_under ht,Result.andThen_ok,Sem.run_pure]
  try rfl
 exact h1 9999
theorem run_eqP0 {t e:TypeId} (ht:P.underlying t = some (.pointer e)) (w:World):(Op.equal t (.pointer none) (.pointer none)).run P w = .ok true w:=by
 have h1:∀ k,(Op.equalIn (k + 1) t (.pointer none) (.pointer none)).run P w = .ok true w:=fun k=>by
  simp only [Op.equalIn,Sem.run_bind,run_under ht,Result.andThen_ok,Sem.run_pure]
  try rfl
 exact h1 9999
theorem Fr.ptr1 {n:Sz} {E:Env} {dd:Option Nat} {ty:TypeId} {pos:String} {af:Array Edge} {gd:Option (Nat × Bool)} {x:Operand} {t t' e:TypeId} {b:Nat} (h:ev E x = some (.pointer (some ⟨b,0,none⟩))) (ht:P.underlying t = some (.pointer e)) :
  Fr n ⟨dd,.binOp .eql t x (.const (.pointer none)) t', ty,pos,af,gd⟩ E (.bool false):=Fr.bo' h rfl fun w=>by
 have hg:eqGuard .eql t x (.const (.pointer none)) (.pointer (some ⟨b,0,none⟩)) (.pointer none) = pure ():=by cases x <;> rfl
 rw [hg,pure_bind]
 show (do pure (Value.bool (← Op.equal t (.pointer (some ⟨b,0,none⟩)) (.pointer none))):Sem Value).run P w = _
 rw [Sem.run_bind,run_eqP1 ht]
 rfl
theorem Fr.ptr0 {n:Sz} {E:Env} {dd:Option Nat} {ty:TypeId} {pos:String} {af:Array Edge} {gd:Option (Nat × Bool)} {x:Operand} {t t' e:TypeId} (h:ev E x = some (.pointer none)) (ht:P.underlying t = some (.pointer e)) :
  Fr n ⟨dd,.binOp .eql t x (.const (.pointer none)) t', ty,pos,af,gd⟩ E (.bool true):=Fr.bo' h rfl fun w=>by
 have hg:eqGuard .eql t x (.const (.pointer none)) (.pointer none) (.pointer none) = pure ():=by cases x <;> rfl
 rw [hg,pure_bind]
 show (do pure (Value.bool (← Op.equal t (.pointer none) (.pointer none))):Sem Value).run P w = _
 rw [Sem.run_bind,run_eqP0 ht]
 rfl
theorem aPk_len (k:Nat):(aPk k).length = k:=by simp [aPk]
theorem aPk_succ (k:Nat):aPk (k + 1) = aPk k ++ [⟨0,((k / 7:Nat):Int),0⟩]:=by simp [aPk,List.range_succ]
theorem aS_end (fp:Nat → Nat):∃ c0 c1 p,(runPlay aS fp 11).calls = [c0,c1] ∧ c1.ended = 10 ∧ c1.reply.values = [p] ∧ p.live = 1 ∧ rDone (runPlay aS fp 11) = true:=by
 obtain ⟨h,hd⟩:=aS_run fp
 generalize (runPlay aS fp 11).calls = l at h
 match l,h with
 | [c0,c1],h=>
  simp only [List.map_cons,List.map_nil,List.cons.injEq,Prod.mk.injEq,and_true] at h
  obtain ⟨_,h2,h3⟩:=h
  generalize e:c1.reply.values = w at h3
  match w,h3 with
  | [p],h3=>exact ⟨c0,c1,p,rfl,h2,e,by simpa using h3,hd⟩
  | [],h3=>simp at h3
  | _ :: _ :: _,h3=>simp at h3
 | [],h=>simp at h
 | [_],h=>simp at h
 | _ :: _ :: _ :: _,h=>simp at h
theorem awake_walk (t:TW) (hok:∀ fp k,k < 11 → RunOk (runPlay aS fp k)) (hl:∀ fp,RunOk (runPlay aS fp 11) ∧ ∀ x ∈ (runPlay aS fp 11).calls,x.op.users.length ≤ 1000000 ∧ x.reply.values.length ≤ 1000000 ∧ x.reply.events.length ≤ 1000000):Cal 7 [] t RT (fun r _=>r = .bool true):=by
 have hz:t.w.heap.size ≤ t.w.heap.size:=Nat.le_refl _
 refine Cal.en Tryz.func7 rfl Tryz.ntmps7<|WC.rs<|WL.a rfl<|WL.go<|WC.rs<|WL.f (Fr.bd (vs:=[(0,.int .i64 2),(1,.int .i64 1),(2,.int .i64 2),(3,.int .i64 1),(4,.int .i64 1),(5,.int .u64 100)]) (cs:=#[.int .i64 2,.int .i64 1,.int .i64 2,.int .i64 1,.int .i64 1,.int .u64 100,.int .u64 0]) rfl (fun w=>by kernel_rfl))<|WL.f (Fr.bd (vs:=[(0,.int .i64 1),(1,.string ⟨#[117]⟩),(3,.int .i64 1),(5,.int .u64 5)]) (cs:=#[.int .i64 1,.string ⟨#[117]⟩,.int .i64 0,.int .i64 1,.int .i64 0,.int .u64 5,.slice none 0 0]) rfl (fun w=>by kernel_rfl))<|WL.e (Ef.bs (.fz) (vs:=[(0,.agg #[.int .i64 1,.string ⟨#[117]⟩,.int .i64 0,.int .i64 1,.int .i64 0,.int .u64 5,.slice none 0 0])]) (cs:=[.int .i64 1,.string ⟨#[117]⟩,.int .i64 0,.int .i64 1,.int .i64 0,.int .u64 5,.slice none 0 0]) (e:=56) rfl (fun w=>by kernel_rfl)) ?_
 rintro _ t1 ⟨b8,rfl,s1,hb8,nb8,_⟩
 have hz:=Nat.le_trans hz s1.size
 refine WL.f (Fr.bd (vs:=[(0,.int .i64 4),(1,.string ⟨#[117]⟩)]) (cs:=#[.int .i64 4,.string ⟨#[117]⟩,.int .i64 0,.int .i64 0,.int .i64 0,.int .u64 0,.slice none 0 0]) rfl (fun w=>by kernel_rfl))<|WL.e (Ef.bs (.fz) (vs:=[(0,.agg #[.int .i64 4,.string ⟨#[117]⟩,.int .i64 0,.int .i64 0,.int .i64 0,.int .u64 0,.slice none 0 0])]) (cs:=[.int .i64 4,.string ⟨#[117]⟩,.int .i64 0,.int .i64 0,.int .i64 0,.int .u64 0,.slice none 0 0]) (e:=56) rfl (fun w=>by kernel_rfl)) ?_
 rintro _ t2 ⟨b10,rfl,s2,hb10,nb10,_⟩
 obtain ⟨hb8,hz⟩:=Q2 (hb8.n s2) (Nat.le_trans hz s2.size)
 refine WL.e (Ef.bs (.fz) (vs:=[(0,.slice (some ⟨b8,0,none⟩) 1 1),(1,.slice (some ⟨b10,0,none⟩) 1 1)]) (cs:=[.slice (some ⟨b8,0,none⟩) 1 1,.slice (some ⟨b10,0,none⟩) 1 1]) (e:=76) rfl (fun w=>by kernel_rfl)) ?_
 rintro _ t3 ⟨b11,rfl,s3,hb11,nb11,_⟩
 obtain ⟨hb10,hb8,hz⟩:=Q3 (hb10.n s3) (hb8.n s3) (Nat.le_trans hz s3.size)
 refine WL.f (Fr.bd (vs:=[(0,.agg #[.int .i64 2,.int .i64 1,.int .i64 2,.int .i64 1,.int .i64 1,.int .u64 100,.int .u64 0]),(1,.slice (some ⟨b11,0,none⟩) 2 2)]) (cs:=#[.int .i64 2,.int .i64 1,.int .i64 2,.int .i64 1,.int .i64 1,.int .u64 100,.int .u64 0,.slice (some ⟨b11,0,none⟩) 2 2,.slice none 0 0]) rfl (fun w=>by kernel_rfl)) ?_
 have hc:Sl _ (kSl kOp) (.slice (some ⟨b11,0,none⟩) 2 2) aS.clients:=Sl.of_bk2 hb11 ⟨_,rfl,Sl.of_bk hb8 ⟨_,rfl,Sl.nil _ _ _ _⟩⟩ ⟨_,rfl,Sl.of_bk hb10 ⟨_,rfl,Sl.nil _ _ _ _⟩⟩
 refine WL.e (Ef.al (.loc 1) zr28) ?_
 rintro _ t4 ⟨b1,rfl,s4,hb1,nb1,mb1⟩
 obtain ⟨hc,hz⟩:=Q2 (hc.n s4) (Nat.le_trans hz s4.size)
 refine WL.e0 (Ef.T [.int .i64 2,.int .i64 1,.int .i64 2,.int .i64 1,.int .i64 1,.int .u64 100,.int .u64 0,.slice (some ⟨b11,0,none⟩) 2 2,.slice none 0 0] rfl rfl hb1 sz28 (.inl nb1)) ?_
 rintro _ t5 ⟨u5,s5,hb1'⟩
 have hb1:Bk t5 b1 [.int .i64 2,.int .i64 1,.int .i64 2,.int .i64 1,.int .i64 1,.int .u64 100,.int .u64 0,.slice (some ⟨b11,0,none⟩) 2 2,.slice none 0 0] _ _:=hb1'
 clear hb1'
 obtain ⟨hc,hz⟩:=Q2 (hc.n s5) (Nat.le_trans hz s5.size)
 refine WL.go<|WC.seq<|WC.rs<|WL.a rfl<|WL.go<|WC.block<|WC.loop (σ:=Nat) (fun k t' => t.w.heap.size ≤ t'.w.heap.size ∧ Sl t' (kSl kOp) (.slice (some ⟨b11,0,none⟩) 2 2) aS.clients ∧ k ≤ 11 ∧ (∃ pv,Bk t' b1 [.int .i64 2,.int .i64 1,.int .i64 2,.int .i64 1,.int .i64 1,.int .u64 100,.int .u64 0,.slice (some ⟨b11,0,none⟩) 2 2,pv] 28 (.loc 1) ∧ Row t' (.loc 23) t.w.heap.size 78 kPick pv (aPk k)) ∧ True) (fun k=>[(0,.bool false),(1,.pointer (some ⟨b1,0,none⟩)),(2,.int .i64 (k:Int))]) (fun k=>11 - k) 0 ⟨rfl,rfl,rfl,trivial⟩ ⟨hz,hc,Nat.zero_le _,⟨_,hb1,Row.nil _ _ _ _ _⟩,trivial⟩ ?_
 rintro k t6 ⟨hz,hc,hk,hI,_⟩
 obtain ⟨pv,hb1,hp⟩:=hI
 obtain ⟨Ap,cp,rfl,_⟩:=hp.form
 rw [aPk_len] at hb1 hp
 refine WC.seq<|WC.rs<|WL.m rfl<|WL.f (Fr.bo rfl rfl BO.lt)<|WL.go ?_
 refine WC.condS rfl (fun hcond14=>?_) (fun hcond14=>?_)
 ·have hlt:k < 11:=by have:=dcT hcond14; omega
  refine WC.skip<|WQ.n<|WC.seq<|WC.block<|WC.rg<|WL.q 8 rfl fa28_2<|WL.r (Rd.ld rfl sc26 (hb1.cell rfl))<|WL.m rfl<|WL.f (Fr.bo rfl rfl (BO.quo_ (by decide)))<|WL.re 20 (v' := .int .i64 ((k / 7:Nat):Int)) rfl (congrArg (Value.int .i64) (by rw [show (k:Int).tdiv 7 = ((k / 7:Nat):Int) from rfl,wrap64 (by omega) (by omega)])) ?_
  refine WL.f (Fr.bd (vs:=[(1,.int .i64 ((k / 7:Nat):Int))]) (cs:=#[.int .i64 0,.int .i64 ((k / 7:Nat):Int),.int .u64 0]) rfl (fun w=>by kernel_rfl))<|WL.e (Ef.bs (.loc 22) (vs:=[(0,.agg #[.int .i64 0,.int .i64 ((k / 7:Nat):Int),.int .u64 0])]) (cs:=[.int .i64 0,.int .i64 ((k / 7:Nat):Int),.int .u64 0]) (e:=78) rfl (fun w=>by kernel_rfl)) ?_
  rintro _ t7 ⟨b22,rfl,s7,hb22,nb22,_⟩
  obtain ⟨hb1,hc,hp,hz⟩:=Q4 (hb1.n s7) (hc.n s7) (hp.n s7) (Nat.le_trans hz s7.size)
  refine WL.e (Ef.ap1 (dk:=kPick) (y1:=⟨0,((k / 7:Nat):Int),0⟩) rfl rfl hb22 rfl sl26 el78 (by decide) hp hz (by rw [aPk_len]; omega) (by decide) nofun (.inl (Nat.le_refl _))) ?_
  rintro v23 t8 ⟨s8,hp2⟩
  obtain ⟨hb1,hc,hz⟩:=Q3 (hb1.n s8) (hc.n s8) (Nat.le_trans hz s8.size)
  rw [← aPk_succ] at hp2
  obtain ⟨A23,c23,rfl,_⟩:=hp2.form
  refine WL.q 8 rfl fa28_2<|WL.e0 (Ef.T [.slice A23 (aPk (k + 1)).length c23] rfl rfl hb1 sz26 (.inl nb1)) ?_
  rintro _ t9 ⟨u9,s9,hb1'⟩
  have hb1:Bk t9 b1 [.int .i64 2,.int .i64 1,.int .i64 2,.int .i64 1,.int .i64 1,.int .u64 100,.int .u64 0,.slice (some ⟨b11,0,none⟩) 2 2,.slice A23 (aPk (k + 1)).length c23] _ _:=hb1'
  clear hb1'
  obtain ⟨hc,hp2,hz⟩:=Q3 (hc.n s9) (hp2.n s9) (Nat.le_trans hz s9.size)
  exact WL.nil<|WQ.bn<|WQ.n<|WC.rg<|WL.m rfl<|WL.f (Fr.bo rfl rfl (BO.add (by omega) (by omega)))<|WL.a rfl<|WL.nil<|WQ.again (k + 1) ⟨rfl,rfl,rfl,trivial⟩ ⟨hz,hc,hlt,⟨_,hb1,hp2⟩,trivial⟩ (by omega)
 have hge:k = 11:=by have:=dcF hcond14; omega
 refine WC.exit<|WQ.tx<|WQ.tx<|WQ.bx<|WQ.n<|WC.rs ?_
 have q1:=TW.tagv_step t6 (v:=.slice Ap k cp) (g' := .fz) hp.tags
 obtain ⟨hb1,hc⟩:=Q2 (hb1.n q1) (hc.n q1)
 have hf:Sl (t6.tagv (.slice Ap k cp) .fz) kPick (.slice Ap k cp) aS.picks:=by rw [show aS.picks = aPk k by rw [hge]; rfl]; exact hp.freeze nofun
 refine WL.tag (.slice Ap k cp) .fz (.inl hp.base)<|WL.r (Rd.la rfl ag28 (hb1.at (vs:=[.int .i64 2,.int .i64 1,.int .i64 2,.int .i64 1,.int .i64 1,.int .u64 100,.int .u64 0,.slice (some ⟨b11,0,none⟩) 2 2,.slice Ap k cp]) rfl))<|WL.e (Ef.call rfl en9 (run_Play (s:=aS) _ hc hf (by decide) (by decide) (by decide) (by decide) (by decide) (by decide) (fun _ fp k hk=>hok fp k hk)) (fun _ h=>h)) ?_
 rintro v27 t10 ⟨s10,h27⟩
 rw [if_pos aS_check] at h27
 obtain ⟨rb,fp,rfl,hR⟩:=h27
 replace hR:IsRun t10 rb (runPlay aS fp 11):=hR
 refine WL.m rfl<|WL.f (Fr.ext rfl rfl)<|WL.f (Fr.ext rfl rfl)<|WL.a rfl<|WL.a rfl<|WL.go<|WC.seq<|WC.rs<|WL.m rfl<|WL.f (Fr.bo rfl rfl BO.ne) ?_
 refine WL.m rfl<|WL.m rfl<|WL.f (Fr.ptr1 rfl Tryz.underlying31)<|WL.f (Fr.pkF rfl rfl)<|WL.go<|WC.condF<|WC.skip<|WQ.n<|WC.rs<|WL.m rfl ?_
 refine WL.e (Ef.call rfl en10 (run_Calls _ hR (hl fp).1.kl (hl fp).2) (fun _ h=>h.elim)) ?_
 rintro v37 t11 ⟨s11,hk⟩
 have hR:=IsRun.none hR s11
 obtain ⟨c0,c1,p,hcs,hen,hvs,hlv,hdn⟩:=aS_end fp
 rw [hcs] at hk
 obtain ⟨bk,ok,capk,ck,ek,hcpk,⟨uv,vv,ev,rfl,hu,hv,he⟩,hAk,hlbk,hfzk⟩:=hk.at_ (i:=1) (x:=c1) rfl
 subst ek
 rw [hvs] at hv
 obtain ⟨bv,oo,capv,cv,eqv,hcpv,rfl,hAv,hlbv,hfzv⟩:=hv.at_ (i:=0) (x:=p) rfl
 subst eqv
 refine WL.a rfl<|WL.go<|WC.rs<|WL.m rfl<|WL.f (Fr.ln rfl Tryz.underlying35)<|WL.f (Fr.bo rfl rfl BO.eq)<|WL.m rfl<|WL.m rfl<|WL.f (Fr.ix rfl rfl sl35 (by decide) (by simp) (o' := ok + 18) rfl)<|WL.f (Fr.fa rfl fa61_7) ?_
 refine WL.r (Rd.ld rfl sc3 ((At.part hAk 13 (vs:=[.int .i64 c1.ended]) rfl).one rfl))<|WL.f (Fr.bo rfl rfl BO.eq)<|WL.re 46 (v' := .bool true) rfl (by rw [hen]; rfl)<|WL.f (Fr.pkT rfl rfl)<|WL.m rfl<|WL.m rfl<|WL.f (Fr.ix rfl rfl sl35 (by decide) (by simp) (o' := ok + 18) rfl)<|WL.f (Fr.fa rfl fa61_8)<|WL.f (Fr.fa rfl fa59_1)<|WL.r (Rd.ld rfl sc57 ((At.part hAk 15 (vs:=[.slice (some ⟨bv,oo,none⟩) 1 capv]) rfl).one rfl)) ?_
 refine WL.f (Fr.ln rfl Tryz.underlying57)<|WL.f (Fr.bo rfl rfl BO.eq)<|WL.f (Fr.pkT rfl rfl)<|WL.m rfl<|WL.m rfl<|WL.f (Fr.ix rfl rfl sl35 (by decide) (by simp) (o' := ok + 18) rfl)<|WL.f (Fr.fa rfl fa61_8)<|WL.f (Fr.fa rfl fa59_1)<|WL.r (Rd.ld rfl sc57 ((At.part hAk 15 (vs:=[.slice (some ⟨bv,oo,none⟩) 1 capv]) rfl).one rfl))<|WL.f (Fr.ix rfl rfl sl57 (by decide) (by simp) (o' := oo) rfl) ?_
 refine WL.f (Fr.fa rfl fa72_2)<|WL.r (Rd.ld rfl sc3 ((At.part hAv 2 (vs:=[.int .i64 p.live]) (by simp [kPres,presC,Kn.flat])).one rfl))<|WL.f (Fr.bo rfl rfl BO.eq)<|WL.re 66 (v' := .bool true) rfl (by rw [hlv]; rfl)<|WL.f (Fr.pkT rfl rfl)<|WL.m rfl<|WL.m rfl<|WL.e (Ef.call rfl en20 (run_Done _ hR (by have:=(hl fp).1.cl; omega)) (fun _ h=>h.elim)) ?_
 rintro _ t12 ⟨s12,rfl⟩
 exact WL.f (Fr.pkT rfl rfl)<|WL.a rfl<|WL.go<|WC.ret<|WQ.ret rfl (.tmp rfl .nil) (by rw [hdn]; rfl)
def e2 (c:Int) (x:CallS):Bool:=!badOp x.op && decide (0 ≤ c) && decide (c < x.began) && !decide (x.op.kind = 8) && !decide (x.reply.err = 5)
def e3 (c:Int) (x:CallS):Bool:=decide (x.op.kind = 9) && !badOp x.op && (decide (c < 0) || decide (x.ended < c))
def e4 (x:CallS):Bool:=(decide (x.reply.err = 2) && !decide (x.op.kind = 1)) || (decide (x.reply.err = 3) && !decide (x.op.kind = 2) && !decide (x.op.kind = 3)) || (decide (x.reply.err = 4) && !decide (x.op.kind = 6))
structure GoodS (s:Script):Prop where
 ok:∀ fp k,k ≤ s.picks.length → RunOk (runPlay s fp k)
 sz:∀ fp,∀ x ∈ (runPlay s fp s.picks.length).calls,x.op.users.length ≤ 1000000 ∧ x.reply.values.length ≤ 1000000 ∧ x.reply.events.length ≤ 1000000
structure WordsS (s:Script):Prop where
 e0:0 ≤ s.cfg.epochs
 e1:s.cfg.epochs ≤ 18446744073709551615
 t0:0 ≤ s.cfg.start
 t1:s.cfg.start ≤ 18446744073709551615
 by_:∀ p ∈ s.picks,0 ≤ p.by_ ∧ p.by_ ≤ 18446744073709551615
 ttl:∀ l ∈ s.clients,∀ x ∈ l,0 ≤ x.ttl ∧ x.ttl ≤ 18446744073709551615
theorem shortS_len {s:Script} {n:Int} (h:shortS s n = true):s.clients.length ≤ 20 ∧ (s.picks.length:Int) ≤ n ∧ ∀ l ∈ s.clients,l.length ≤ 50:=by
 unfold shortS at h
 simp only [Bool.and_eq_true,decide_eq_true_eq,List.all_eq_true] at h
 exact ⟨h.1.1,h.1.2,fun l hl=>(h.2 l hl).1⟩
theorem good_play {s:Script} {cv pv:Value} (t:TW) (hc:Sl t (kSl kOp) cv s.clients) (hp:Sl t kPick pv s.picks) (hw:WordsS s) (hsh:shortS s 900 = true) (hg:checkS s = 0 → GoodS s) :
  Cal 9 [.agg (cfgC s.cfg ++ [cv,pv]).toArray] t RT (fun v t' => ∃ o,v = .tuple #[.pointer o,.int .i64 (checkS s)] ∧ (checkS s ≠ 0 → o = none) ∧ (checkS s = 0 → ∃ rb fp,o = some ⟨rb,0,none⟩ ∧ IsRun t' rb (runPlay s fp s.picks.length))):=by
 obtain ⟨a,b,d⟩:=shortS_len hsh
 refine (run_Play t hc hp (by omega) (by omega) (fun l hl=>by have:=d l hl; omega) hw.e0 hw.e1 hw.by_ (fun h fp k hk=>(hg h).ok fp k (by omega))).post fun v t' _ h=>?_
 by_cases e:checkS s = 0
 ·rw [if_pos e] at h
  obtain ⟨rb,fp,e1,hR⟩:=h
  exact ⟨_,by rw [e1,e],fun h=>absurd e h,fun _=>⟨rb,fp,rfl,hR⟩⟩
 rw [if_neg e] at h
 exact ⟨_,h,fun _=>rfl,fun h=>absurd h e⟩
variable {c:Cfg} {h:HallS} {k:Nat}
structure OpI (x:Opr):Prop where
 ttl:0 ≤ x.ttl ∧ x.ttl ≤ 18446744073709551615
 ul:x.users.length ≤ 20
 us:x.user.size ≤ 40
 uu:∀ u ∈ x.users,u.size ≤ 40
def PI (c:Cfg) (k:Nat):ProcS → Prop
 | .w p=>WI1 c p
 | .r p=>RI c p k ∧ RE p
 | .d p=>DI c p
theorem PI.mono {p:ProcS} (r:PI c k p) {k' : Nat} (hk:k ≤ k'):PI c k' p:=by
 cases p with
 | w p=>exact r
 | r p=>exact ⟨r.1.mono hk,r.2⟩
 | d p=>exact r
theorem pStep_I (ci:CI c) (g:HI c h k) (m:MineS) (pos:Int) {p:ProcS} (r:PI c k p):HI c (pStep h m pos p).1 (k + 1) ∧ PI c (k + 1) (pStep h m pos p).2.2:=by
 cases p with
 | w p=>exact wStep_I g r pos
 | r p=>
  have:=rStep_I g r.1 pos
  exact ⟨this.1,this.2,r.2.step _ _⟩
 | d p=>exact hdStep_I g (by have:=ci.qu; omega) ci.qu.2 ci.st.2 m r pos
theorem p_ok (ci:CI c) (g:HI c h k) (hk:k ≤ 10000) {p:ProcS} (r:PI c k p):POk h p:=by
 cases p with
 | w p=>exact ⟨g.lt r.s,fun _ _=>w_ok g hk ci.st.2 ci.qu.2 r⟩
 | r p=>exact r_pok ci g hk r.1 r.2
 | d p=>exact d_pok g hk ci.st.2 ci.qu.2 r
theorem p_new (ci:CI c) (hc:h.cfg = c) (i:Nat) (hi:i < 8) {x:Opr} (hx:OpI x):PI c k (newP h i x):=by
 have hs:=stripeOf_lo x.user ci.st.1
 unfold newP
 rw [hc]
 split
 ·refine ⟨by show (((stripeOf x.user c.stripes).toNat:Nat):Int) < _; omega,by show (i:Int) ≤ 8; omega,by show (0:Int) ≤ 0 ∧ (0:Int) ≤ _; decide,fun y hy=>?_⟩
  simp only [wNew] at hy
  split at hy
  ·cases hy
  obtain rfl:=WAct.wr.inj hy
  exact hx.ttl
 split
 ·exact ⟨r_new ci i hi x,re_new _ _ _ _⟩
 exact d_new i hi x _ _ (by have:=ci.st; omega) (by omega)
theorem p_reply {p:ProcS} (r:PI c k p):(pReply p).values.length ≤ 8 ∧ (pReply p).events.length ≤ 200:=by
 cases p with
 | w p=>exact ⟨Nat.zero_le _,Nat.zero_le _⟩
 | r p=>
  show (rReply p).values.length ≤ 8 ∧ (rReply p).events.length ≤ 200
  unfold rReply
  split
  ·exact ⟨r.1.vl,Nat.zero_le _⟩
  exact ⟨Nat.zero_le _,Nat.zero_le _⟩
 | d p=>
  show (hdReply p).values.length ≤ 8 ∧ (hdReply p).events.length ≤ 200
  unfold hdReply
  split
  ·exact ⟨Nat.zero_le _,r.ev⟩
  exact ⟨Nat.zero_le _,Nat.zero_le _⟩
structure CaI (x:CallS):Prop where
 ul:x.op.users.length ≤ 20
 vl:x.reply.values.length ≤ 8
 el:x.reply.events.length ≤ 200
structure ClI (c:Cfg) (k N:Nat) (d:ClientS):Prop where
 ol:d.ops.length ≤ 50
 op:∀ x ∈ d.ops,OpI x
 now:∀ p,d.now = some p → PI c k p
 call:d.now ≠ none → 0 ≤ d.call ∧ d.call < (N:Int)
theorem ClI.mono {N:Nat} {d:ClientS} (g:ClI c k N d) {k' N' : Nat} (h1:k ≤ k') (h2:N ≤ N'):ClI c k' N' d:=⟨g.ol,g.op,fun p hp=>(g.now p hp).mono h1,fun hn=>⟨(g.call hn).1,by have:=(g.call hn).2; omega⟩⟩
structure RnR (c:Cfg) (r:RunS) (k:Nat):Prop where
 nc:r.clients.length ≤ 8
 cl:∀ d ∈ r.clients,ClI c k r.calls.length d
 ca:r.calls.length ≤ k
 cs:∀ x ∈ r.calls,CaI x
 st:(r.sw.stripe:Int) < c.stripes
 sw:WI1 c r.sw.now
 rd:0 ≤ r.sw.rounds ∧ r.sw.rounds ≤ (k:Int)
 sv:0 ≤ r.sweeps ∧ r.sweeps ≤ (k:Int)
 tk:0 ≤ r.ticks ∧ r.ticks ≤ (k:Int)
 sc:r.sweep < (r.calls.length:Int)
theorem RnR.mono {r:RunS} (g:RnR c r k):RnR c r (k + 1):=⟨g.nc,fun d hd=>(g.cl d hd).mono (Nat.le_succ _) (Nat.le_refl _),Nat.le_succ_of_le g.ca,g.cs,g.st,g.sw,⟨g.rd.1,by have:=g.rd.2; omega⟩,⟨g.sv.1,by have:=g.sv.2; omega⟩,⟨g.tk.1,by have:=g.tk.2; omega⟩,g.sc⟩
theorem RnR.began {r:RunS} (g:RnR c r k) {x:CallS} (hx:CaI x):RnR c (rBegan r x) (k + 1):=by
 have e:(rBegan r x).calls.length = r.calls.length + 1:=by simp [rBegan]
 refine ⟨g.nc,fun d hd=>by rw [e]; exact (g.cl d hd).mono (Nat.le_succ _) (Nat.le_succ _),by rw [e]; have:=g.ca; omega,fun y hy=>?_,g.st,g.sw,⟨g.rd.1,by have:=g.rd.2; show r.sw.rounds ≤ _; omega⟩,⟨g.sv.1,by have:=g.sv.2; show r.sweeps ≤ _; omega⟩,⟨g.tk.1,by have:=g.tk.2; show r.ticks ≤ _; omega⟩,by rw [e]; have:=g.sc; show r.sweep < _; omega⟩
 rcases List.mem_append.1 hy with hy | hy
 ·exact g.cs y hy
 rw [List.mem_singleton.1 hy]
 exact ⟨hx.ul,hx.vl,hx.el⟩
theorem RnR.set {r:RunS} (g:RnR c r k) (i:Nat) {d:ClientS} (hd:ClI c k r.calls.length d):RnR c (rSetC r i d) k:=
 ⟨by show (r.clients.set i d).length ≤ 8; rw [List.length_set]; exact g.nc,fun d' h=>by
  rcases mem_set h with rfl | h
  ·exact hd
  ·exact g.cl d' h,g.ca,g.cs,g.st,g.sw,g.rd,g.sv,g.tk,g.sc⟩
theorem RnR.modify {r:RunS} (g:RnR c r k) (j:Nat) (f:CallS → CallS) (hf:∀ x,CaI x → CaI (f x)) (h:HallS):RnR c { r with h:=h,calls:=r.calls.modify j f } k:=
 ⟨g.nc,fun d hd=>by show ClI c k (r.calls.modify j f).length d; rw [List.length_modify]; exact g.cl d hd,by show (r.calls.modify j f).length ≤ k; rw [List.length_modify]; exact g.ca,fun y hy=>by
  rcases mem_at hy with ⟨m,hm⟩
  rw [List.getElem?_modify] at hm
  cases e:r.calls[m]? with
  | none=>rw [e] at hm; cases hm
  | some z=>
   rw [e] at hm
   have hz:=g.cs z (List.mem_of_getElem? e)
   have:(if j = m then f z else z) = y:=by simpa using hm
   rw [← this]
   split
   ·exact hf z hz
   ·exact hz,g.st,g.sw,g.rd,g.sv,g.tk,by show _ < ((r.calls.modify j f).length:Int); rw [List.length_modify]; exact g.sc⟩
theorem ca_new {x:Opr} (hx:OpI x) (a b d e f i j:Int):CaI ⟨a,b,x,d,e,f,i,j,zReply⟩:=⟨hx.ul,Nat.zero_le _,Nat.zero_le _⟩
theorem opI_z:OpI zOpr:=⟨by show (0:Int) ≤ 0 ∧ (0:Int) ≤ _; decide,Nat.zero_le _,Nat.zero_le _,fun u h=>(by cases h)⟩
theorem rPre_I (ci:CI c) {r:RunS} (hc:r.h.cfg = c) (g:RnR c r k) {i:Nat} {d:ClientS} (hd:r.clients[i]? = some d):RnR c (rPre r i d).1 (k + 1) ∧ ClI c k (rPre r i d).1.calls.length (rPre r i d).2:=by
 have hm:=g.cl d (List.mem_of_getElem? hd)
 have hi:i < 8:=by
  have:=(List.getElem?_eq_some_iff.1 hd).1
  have:=g.nc
  omega
 unfold rPre
 split
 ·rename_i hb
  have hlt:=(rBegins_now hb).2
  have hx:OpI (d.ops.getD d.at_ zOpr):=by
   rw [List.getD_eq_getElem?_getD,List.getElem?_eq_getElem hlt]
   exact hm.op _ (List.getElem_mem hlt)
  refine ⟨g.began (ca_new hx _ _ _ _ _ _ _),hm.ol,hm.op,fun p hp=>?_,fun _=>⟨Int.natCast_nonneg _,?_⟩⟩
  ·obtain rfl:=Option.some.inj hp
   exact p_new ci hc i hi hx
  show (r.calls.length:Int) < ((r.calls ++ [_]).length:Int)
  rw [List.length_append]
  simp
  omega
 exact ⟨g.mono,hm⟩
theorem callAt_I {x:CallS} (hx:CaI x) (n:Int) {p:ProcS} (hp:PI c k p):CaI (callAt x n p):=by
 have:=p_reply hp
 unfold callAt
 split
 ·exact ⟨hx.ul,this.1,this.2⟩
 exact ⟨hx.ul,hx.vl,hx.el⟩
theorem clientStep_I (ci:CI c) {r:RunS} (g:HI c r.h k) (q:RnR c r k) (who:Int):HI c (clientStep r who).1.h (k + 1) ∧ RnR c (clientStep r who).1 (k + 1):=by
 by_cases ho:who < 0 ∨ (r.clients.length:Int) ≤ who
 ·rw [show clientStep r who = (r,false) by unfold clientStep; rw [if_pos ho]]
  exact ⟨g.mono (Nat.le_succ _),q.mono⟩
 obtain ⟨i,rfl⟩:=Int.eq_ofNat_of_zero_le (show 0 ≤ who by omega)
 have hi:i < r.clients.length:=by omega
 have hci:=List.getElem?_eq_getElem hi
 obtain ⟨g1,g2⟩:=rPre_I ci g.cfg q hci
 obtain ⟨e1,e2,e3,e4,e5,e6⟩:=rPre_h r i r.clients[i]
 cases hn:(rPre r i r.clients[i]).2.now with
 | none=>
  rw [clientStep_none hci hn]
  exact ⟨by show HI c (rPre r i r.clients[i]).1.h _; rw [e1]; exact g.mono (Nat.le_succ _),g1.set i (g2.mono (Nat.le_succ _) (Nat.le_refl _))⟩
 | some p=>
  cases he:pEnabled r.h p with
  | false=>
   rw [clientStep_off hci hn he]
   exact ⟨by show HI c (rPre r i r.clients[i]).1.h _; rw [e1]; exact g.mono (Nat.le_succ _),g1.set i (g2.mono (Nat.le_succ _) (Nat.le_refl _))⟩
  | true=>
   rw [clientStep_mv hci hn he]
   have hp:=pStep_I ci g (rPre r i r.clients[i]).2.mine (rPre r i r.clients[i]).1.n (g2.now p hn)
   unfold rMove
   rw [e1]
   refine ⟨hp.1,(g1.modify _ _ (fun x hx=>callAt_I hx _ hp.2) _).set i ⟨g2.ol,g2.op,fun p' h' => ?_,fun h' => ?_⟩⟩
   ·simp only at h'
    split at h'
    ·cases h'
    obtain rfl:=Option.some.inj h'
    exact hp.2
   show 0 ≤ (rPre r i r.clients[i]).2.call ∧ _ < (((rPre r i r.clients[i]).1.calls.modify _ _).length:Int)
   rw [List.length_modify]
   exact g2.call (by rw [hn]; exact nofun)
theorem swBegin_I {s:Nat} (hs:(s:Int) < c.stripes):WI1 c (swBegin s):=⟨hs,by show (8:Int) ≤ 8; decide,by show (0:Int) ≤ 0 ∧ (0:Int) ≤ _; decide,fun x hx=>by cases hx⟩
theorem swNext_I (ci:CI c) {p:SwProc} (hs:(p.stripe:Int) < c.stripes):((swNext p c.stripes:Nat):Int) < c.stripes:=by
 have:=ci.st
 unfold swNext
 split <;> omega
theorem sweepStep_I (ci:CI c) {r:RunS} (g:HI c r.h k) (q:RnR c r k):HI c (sweepStepR r).1.h (k + 1) ∧ RnR c (sweepStepR r).1 (k + 1):=by
 unfold sweepStepR
 split
 ·exact ⟨g.mono (Nat.le_succ _),q.mono⟩
 have q1:RnR c (rSwBeg r) (k + 1):=by
  unfold rSwBeg
  split
  ·have b:=q.began (ca_new opI_z 8 r.sweeps r.sw.stripe 0 0 0 0)
   refine ⟨b.nc,b.cl,b.ca,b.cs,b.st,b.sw,b.rd,⟨by have:=q.sv.1; show 0 ≤ r.sweeps + 1; omega,by have:=q.sv.2; show r.sweeps + 1 ≤ _; omega⟩,b.tk,?_⟩
   show (r.calls.length:Int) < ((rBegan r _).calls.length:Int)
   simp [rBegan]
   omega
  exact q.mono
 obtain ⟨e1,e2,e3,e4⟩:=rSwBeg_h r
 have g1:HI c (rSwBeg r).h k:=by rw [e1]; exact g
 obtain ⟨h1,h2⟩:=wStep_I g1 q1.sw (rSwBeg r).n
 have hcfg:=h1.cfg
 have rd:=q1.rd
 show HI c (rSwMove (rSwBeg r)).h _ ∧ RnR c (rSwMove (rSwBeg r)) _
 unfold rSwMove
 dsimp only
 split
 ·rename_i hq
  have hd:wDone (wStep (rSwBeg r).h (rSwBeg r).sw.now (rSwBeg r).n).2 = true:=by
   unfold swStep at hq
   dsimp only at hq
   split at hq
   ·assumption
   cases hq
  have ee:swStep (rSwBeg r).h (rSwBeg r).sw (rSwBeg r).n = ((wStep (rSwBeg r).h (rSwBeg r).sw.now (rSwBeg r).n).1,⟨swNext (rSwBeg r).sw c.stripes,swRound (rSwBeg r).sw c.stripes,swBegin (swNext (rSwBeg r).sw c.stripes)⟩,true):=by
   unfold swStep
   dsimp only
   rw [if_pos hd,hcfg]
  rw [ee]
  have m:=q1.modify (rSwBeg r).sweep.toNat (fun x=>{ x with ended:=(rSwBeg r).n }) (fun x hx=>⟨hx.ul,hx.vl,hx.el⟩) (wStep (rSwBeg r).h (rSwBeg r).sw.now (rSwBeg r).n).1
  refine ⟨h1,m.nc,m.cl,m.ca,m.cs,swNext_I ci q1.st,swBegin_I (swNext_I ci q1.st),?_,m.sv,m.tk,by show (-1:Int) < _; omega⟩
  show 0 ≤ swRound _ _ ∧ swRound _ _ ≤ _
  have r0:=q.rd
  unfold swRound
  rw [e4]
  split <;> constructor <;> omega
 rename_i hq
 have hd:¬ wDone (wStep (rSwBeg r).h (rSwBeg r).sw.now (rSwBeg r).n).2 = true:=fun hd=>hq (by unfold swStep; dsimp only; rw [if_pos hd])
 have ee:swStep (rSwBeg r).h (rSwBeg r).sw (rSwBeg r).n = ((wStep (rSwBeg r).h (rSwBeg r).sw.now (rSwBeg r).n).1,{ (rSwBeg r).sw with now:=(wStep (rSwBeg r).h (rSwBeg r).sw.now (rSwBeg r).n).2 },false):=by
  unfold swStep
  dsimp only
  rw [if_neg hd]
 rw [ee]
 have m:=q1.modify (rSwBeg r).sweep.toNat (fun x=>{ x with placed:=(wStep (rSwBeg r).h (rSwBeg r).sw.now (rSwBeg r).n).2.placed }) (fun x hx=>⟨hx.ul,hx.vl,hx.el⟩) (wStep (rSwBeg r).h (rSwBeg r).sw.now (rSwBeg r).n).1
 exact ⟨h1,m.nc,m.cl,m.ca,m.cs,m.st,h2,m.rd,m.sv,m.tk,m.sc⟩
theorem rTick_I {r:RunS} (g:HI c r.h k) (q:RnR c r k) {by_:Int} (hb:0 ≤ by_):HI c (rTick r by_).h (k + 1) ∧ RnR c (rTick r by_) (k + 1):=by
 refine ⟨g.pass 9 hb,?_⟩
 have e:(rTick r by_).calls.length = r.calls.length + 1:=by simp [rTick]
 refine ⟨q.nc,fun d hd=>by rw [e]; exact (q.cl d hd).mono (Nat.le_succ _) (Nat.le_succ _),by rw [e]; have:=q.ca; omega,fun y hy=>?_,q.st,q.sw,⟨q.rd.1,by have:=q.rd.2; show r.sw.rounds ≤ _; omega⟩,⟨q.sv.1,by have:=q.sv.2; show r.sweeps ≤ _; omega⟩,⟨by have:=q.tk.1; show 0 ≤ r.ticks + 1; omega,by have:=q.tk.2; show r.ticks + 1 ≤ _; omega⟩,by rw [e]; have:=q.sc; show r.sweep < _; omega⟩
 rcases List.mem_append.1 hy with hy | hy
 ·exact q.cs y hy
 rw [List.mem_singleton.1 hy]
 exact ca_new opI_z _ _ _ _ _ _ _
structure RnI (c:Cfg) (r:RunS) (k:Nat):Prop where
 hh:HI c r.h k
 rr:RnR c r k
 n:r.n = (k:Int)
theorem runStep_I (ci:CI c) {r:RunS} (q:RnI c r k) {p:Pick} (hp:0 ≤ p.by_):RnI c (runStep r p).1 (k + 1):=by
 have qn:=q.n
 have hn:=rAct_n r p
 have key:HI c (rAct r p).1.h (k + 1) ∧ RnR c (rAct r p).1 (k + 1):=by
  unfold rAct
  split
  ·exact clientStep_I ci q.hh q.rr _
  split
  ·exact sweepStep_I ci q.hh q.rr
  split
  ·exact rTick_I q.hh q.rr hp
  exact ⟨q.hh.mono (Nat.le_succ _),q.rr.mono⟩
 refine ⟨key.1,⟨key.2.nc,key.2.cl,key.2.ca,key.2.cs,key.2.st,key.2.sw,key.2.rd,key.2.sv,key.2.tk,key.2.sc⟩,?_⟩
 show (rAct r p).1.n + 1 = _
 rw [hn,qn]
 omega
theorem runNew_I {s:Script} (hw:WordsS s) (ci:CI s.cfg) (hcl:s.clients.length ≤ 8) (ho:∀ l ∈ s.clients,l.length ≤ 50 ∧ ∀ x ∈ l,OpI x) (fp:Nat → Nat):RnI s.cfg (runNew s fp) 0:=by
 have hst:∀ i,hStr (hNew s.cfg fp) i = zStr ∨ ∃ b,hStr (hNew s.cfg fp) i = str0 s.cfg b:=fun i=>by
  unfold hStr
  rw [List.getD_eq_getElem?_getD]
  cases e:(hNew s.cfg fp).strs[i]? with
  | none=>exact .inl rfl
  | some x=>
   right
   have:=List.mem_of_getElem? e
   obtain ⟨j,_,rfl⟩:=List.mem_map.1 this
   exact ⟨fp j,rfl⟩
 refine ⟨⟨rfl,?_,Nat.zero_le _,⟨hw.t0,hw.t1⟩,by show (0:Int) ≤ 0 ∧ (0:Int) ≤ _; decide,fun i=>?_,fun i=>Nat.zero_le _,fun i j=>⟨rfl,by have:=ci.qu; show (0:Int) ≤ _; omega⟩⟩,⟨by show (s.clients.map _).length ≤ 8; rw [List.length_map]; exact hcl,fun d hd=>?_,Nat.zero_le _,fun x h=>(by cases h),by have:=ci.st; show ((0:Nat):Int) < _; omega,swBegin_I (by have:=ci.st; show ((0:Nat):Int) < _; omega),by show (0:Int) ≤ 0 ∧ (0:Int) ≤ _; decide,by show (0:Int) ≤ 0 ∧ (0:Int) ≤ _; decide,by show (0:Int) ≤ 0 ∧ (0:Int) ≤ _; decide,by show (-1:Int) < 0; decide⟩,rfl⟩
 ·show (((strsN s.cfg fp s.cfg.stripes.toNat).length:Nat):Int) = _
  unfold strsN
  rw [List.length_map,List.length_range]
  have:=ci.st
  omega
 ·show StrI (hStr (hNew s.cfg fp) i) 0
  rcases hst i with e | ⟨b,e⟩ <;> rw [e] <;> exact ⟨by show (0:Int) ≤ 0 ∧ (0:Int) ≤ _; decide,by show (0:Int) ≤ 0 ∧ (0:Int) ≤ _; decide,bkI_no _,bkI_no _⟩
 obtain ⟨l,hl,rfl⟩:=List.mem_map.1 hd
 exact ⟨(ho l hl).1,(ho l hl).2,nofun,fun h=>absurd rfl h⟩
theorem runPlay_next {s:Script} {fp:Nat → Nat} {k:Nat} (hk:k < s.picks.length):runPlay s fp (k + 1) = (runStep (runPlay s fp k) s.picks[k]).1:=by
 unfold runPlay
 rw [List.take_succ_eq_append_getElem hk,List.foldl_append]
 rfl
theorem runPlay_I {s:Script} (hw:WordsS s) (ci:CI s.cfg) (hcl:s.clients.length ≤ 8) (ho:∀ l ∈ s.clients,l.length ≤ 50 ∧ ∀ x ∈ l,OpI x) (fp:Nat → Nat):∀ k,k ≤ s.picks.length → RnI s.cfg (runPlay s fp k) k
 | 0,_=>runNew_I hw ci hcl ho fp
 | k + 1,hk=>by
  rw [runPlay_next hk]
  exact runStep_I ci (runPlay_I hw ci hcl ho fp k (by omega)) (hw.by_ _ (List.getElem_mem hk)).1
theorem runOk_I (ci:CI c) {r:RunS} (q:RnI c r k) (hk:k ≤ 9000):RunOk r:=by
 have hl:=q.hh.len
 have hs:=ci.st
 refine ⟨q.rr.nc,by have:=q.rr.ca; omega,by omega,by rw [q.hh.cfg]; omega,by rw [q.hh.cfg]; omega,fun d hd=>by have:=(q.rr.cl d hd).ol; omega,fun d hd x hx=>?_,fun i d hd p hp=>?_,fun i d hd hn=>?_,fun d hd p hp=>p_ok ci q.hh (by omega) ((q.rr.cl d hd).now p hp),q.hh.lt q.rr.sw.s,fun _ _=>w_ok q.hh (by omega) hs.2 ci.qu.2 q.rr.sw,by have:=q.rr.st; omega,⟨q.rr.rd.1,by have:=q.rr.rd.2; omega⟩,⟨q.rr.sv.1,by have:=q.rr.sv.2; omega⟩,⟨q.rr.tk.1,by have:=q.rr.tk.2; omega⟩,by have:=q.n; omega,.inr q.rr.sc,by have:=q.hh.al; omega,q.hh.tn,q.hh.sq⟩
 ·have:=(q.rr.cl d hd).op x hx
  exact ⟨by have:=this.ul; omega,by have:=this.us; omega,fun u hu=>by have:=this.uu u hu; omega⟩
 ·exact p_ok ci q.hh (by omega) ((rPre_I ci q.hh.cfg q.rr hd).2.now p hp)
 exact (rPre_I ci q.hh.cfg q.rr hd).2.call hn
theorem opI_short {x:Opr} (h:shortOp x = true) (ht:0 ≤ x.ttl ∧ x.ttl ≤ 18446744073709551615):OpI x:=by
 unfold shortOp at h
 simp only [Bool.and_eq_true,decide_eq_true_eq,List.all_eq_true] at h
 exact ⟨ht,h.1.2,h.1.1,h.2⟩
theorem check_right {s:Script} (h:checkS s = 0):cfgRight s.cfg = true ∧ s.clients.length ≤ 8:=by
 unfold checkS at h
 split at h
 ·cases h
 rename_i h1
 split at h
 ·cases h
 rename_i h2
 refine ⟨by cases e:cfgRight s.cfg; exact absurd (.inl e) h1; rfl,by omega⟩
theorem short_ops {s:Script} {n:Int} (hw:WordsS s) (hs:shortS s n = true):∀ l ∈ s.clients,l.length ≤ 50 ∧ ∀ x ∈ l,OpI x:=by
 unfold shortS at hs
 simp only [Bool.and_eq_true,decide_eq_true_eq,List.all_eq_true] at hs
 exact fun l hl=>⟨(hs.2 l hl).1,fun x hx=>opI_short ((hs.2 l hl).2 x hx) (hw.ttl l hl x hx)⟩
theorem play_I {s:Script} (hw:WordsS s) (hs:shortS s 900 = true) (hc:checkS s = 0) (fp:Nat → Nat) {k:Nat} (hk:k ≤ s.picks.length):RnI s.cfg (runPlay s fp k) k:=
 runPlay_I hw (cI_of (check_right hc).1 hw.e0 hw.e1) (check_right hc).2 (short_ops hw hs) fp k hk
theorem goodS {s:Script} (hw:WordsS s) (hs:shortS s 900 = true) (hc:checkS s = 0):GoodS s:=by
 have hl:=(shortS_len hs).2.1
 refine ⟨fun fp k hk=>runOk_I (cI_of (check_right hc).1 hw.e0 hw.e1) (play_I hw hs hc fp hk) (by omega),fun fp x hx=>?_⟩
 have:=(play_I hw hs hc fp (Nat.le_refl _)).rr.cs x hx
 exact ⟨by have:=this.ul; omega,by have:=this.vl; omega,by have:=this.el; omega⟩
theorem good_aS:GoodS aS:=goodS ⟨by decide,by decide,by decide,by decide,by decide +kernel,by decide +kernel⟩ (by decide +kernel) aS_check
open Go.ChangeShapes Go.WideShapes Go.ChangeAt Go.RowKit
theorem own:ownKnob P.godebug = none:=by kernel_rfl
theorem laidOut:laidOutB P = true:=by kernel_rfl
theorem read28:P.readableRec 28 = true:=by kernel_rfl
theorem types28:28 < P.types.size:=of_decide_eq_true (by kernel_rfl)
theorem co28:P.cellsOf 28 = 9:=by kernel_rfl
set_option maxRecDepth 100000 in
theorem okWide_agg {w:World} {base:Nat} {v:Value} (h:Value.okWide P w .any base 28 v):∃ cs:List Value,v = .agg cs.toArray ∧ cs.length = 9:=by
 unfold Value.okWide at h
 rw [Tryz.underlying28] at h
 obtain ⟨cs,rfl,hs,_⟩:=h
 rw [co28] at hs
 exact ⟨cs.toList,by simp,by simpa using hs⟩
theorem words_of {s:Script} (h5:0 ≤ s.cfg.epochs ∧ s.cfg.epochs ≤ 18446744073709551615) (h6:0 ≤ s.cfg.start ∧ s.cfg.start ≤ 18446744073709551615) (hp:∀ p ∈ s.picks,PickQ p) (hc:∀ l ∈ s.clients,∀ x ∈ l,OpQ x):WordsS s:=⟨h5.1,h5.2,h6.1,h6.2,hp,hc⟩
def kUser:Kn (ByteArray × Entry) where
 k:=5
 R:=fun t x c=>∃ u,c = .string x.1 :: u :: presC x.2.told ∧ Sl t kSess u x.2.sessions
 len:=by rintro t x c ⟨v,rfl,_⟩; rfl
 one:=by
  rintro t x c ⟨v,rfl,h⟩ u hu
  simp at hu
  rcases hu with rfl | rfl | rfl | rfl | rfl <;> first | rfl | exact h.cell
 stp:=by
  rintro T t t' x c s hT ⟨v,rfl,h⟩
  exact ⟨v,rfl,h.step s hT⟩
theorem kUser_nil (t:TW):(kSl kUser).R t [] [.slice none 0 0]:=⟨_,rfl,Sl.nil _ _ none 0⟩
def pl (l:List CallS) (i:Nat):Int:=match l[i]? with
 | some x=>x.placed
 | none=>-1
theorem pl_at {l:List CallS} {i:Nat} (h:i < l.length):pl l i = l[i].placed:=by
 unfold pl
 rw [List.getElem?_eq_getElem h]
def oTk (l:List CallS) (u:List Bool) (b:Option Nat) (i:Nat):Bool:=decide (0 ≤ pl l i) && !(u.getD i false) && (match b with
 | none=>true
 | some j=>decide (pl l i ≤ pl l j))
def oStep (l:List CallS) (u:List Bool) (b:Option Nat) (i:Nat):Option Nat:=if oTk l u b i = true then some i else b
def oScan (l:List CallS) (u:List Bool):Nat → Option Nat
 | 0=>none
 | m + 1=>oStep l u (oScan l u m) (l.length - 1 - m)
def oGo (l:List CallS):Nat → List Bool × List Nat
 | 0=>(List.replicate l.length false,[])
 | n + 1=>match oScan l (oGo l n).1 l.length with
  | none=>oGo l n
  | some j=>((oGo l n).1.set j true,(oGo l n).2 ++ [j])
def ordS (l:List CallS):List Nat:=(oGo l l.length).2
theorem oScan_lt {l:List CallS} {u:List Bool}:∀ {m j:Nat},m ≤ l.length → oScan l u m = some j → j < l.length
 | 0,j,_,h=>by cases h
 | m + 1,j,hm,h=>by
  unfold oScan oStep at h
  split at h
  ·obtain rfl:=Option.some.inj h
   omega
  ·exact oScan_lt (by omega) h
theorem oGo_len (l:List CallS):∀ n,(oGo l n).1.length = l.length ∧ (oGo l n).2.length ≤ n
 | 0=>⟨by simp [oGo],Nat.le_refl _⟩
 | n + 1=>by
  have ih:=oGo_len l n
  unfold oGo
  split
  ·exact ⟨ih.1,by omega⟩
  ·refine ⟨by rw [List.length_set]; exact ih.1,?_⟩
   simp only [List.length_append,List.length_cons,List.length_nil]
   omega
abbrev bC (u:List Bool):List Value:=u.map fun (x:Bool)=>Value.bool x
theorem bC_get {u:List Bool} {i:Nat} (h:i < u.length):(bC u)[i]? = some (.bool (u.getD i false)):=by
 rw [List.getElem?_map,getD_at (List.getElem?_eq_getElem h),List.getElem?_eq_getElem h]
 rfl
theorem bC_put {u:List Bool} {j:Nat} {x:Bool} (h:j < u.length):put (bC u) j [.bool x] = bC (u.set j x):=by
 rw [put_one (by simpa using h)]
 simp only [bC,List.map_set]
abbrev iL (o:List Nat):List Int:=o.map fun (x:Nat)=>(x:Int)
theorem ref01_Add (a b:Int) (t:TW) (h0:0 ≤ a) (h1:a ≤ 18446744073709551615) (h2:0 ≤ b) (h3:b ≤ 18446744073709551615):Cal 25 [.int .u64 a,.int .u64 b] t No (fun v _=>v = .int .u64 (tAdd a b)):=by
 refine Cal.en Tryz.func25 rfl Tryz.ntmps25<|WC.rs<|WL.a rfl<|WL.go<|WC.rs<|WL.m rfl<|WL.f (Fr.bo rfl rfl (BO.subU (by omega) (by omega)))<|WL.a rfl<|WL.go<|WC.seq ?_
 refine WC.rs<|WL.m rfl<|WL.m rfl<|WL.f (Fr.bo rfl rfl BO.lt)<|WL.go ?_
 refine WC.condS rfl (fun hcond10=>?_) (fun hcond10=>?_)
 ·have hc:=dcT hcond10
  exact WC.rs<|WL.a rfl<|WL.go<|WC.ret<|WQ.tr<|WQ.ret rfl (.tmp rfl .nil) (by unfold tAdd; rw [if_pos (by omega)]; rfl)
 have hc:=dcF hcond10
 exact WC.skip<|WQ.n<|WC.rs<|WL.m rfl<|WL.m rfl<|WL.f (Fr.bo rfl rfl (BO.addU (by omega) (by omega)))<|WL.a rfl<|WL.go<|WC.ret<|WQ.ret rfl (.tmp rfl .nil) (by unfold tAdd; rw [if_neg (by omega)]; rfl)
theorem ref10_Tick {b:Nat} {g:Tag} (c:Cfg) (x:Time) (bv fv:Value) (by_:Int) (t:TW) (hb:Bk t b (cfgC c ++ timeC x ++ [bv,fv]) 46 g) (h0:0 ≤ x.now) (h1:x.now ≤ 18446744073709551615) (h2:0 ≤ by_) (h3:by_ ≤ 18446744073709551615):Cal 13 [.pointer (some ⟨b,0,none⟩),.int .u64 by_] t (fun z=>z = g) (fun _ t' => Bk t' b (cfgC c ++ timeC { x with now:=tAdd x.now by_ } ++ [bv,fv]) 46 g):=by
 refine Cal.en Tryz.func13 rfl Tryz.ntmps13<|WC.rg<|WL.m rfl<|WL.m rfl<|WL.f (Fr.ncP rfl)<|WL.q 7 rfl fa46_1<|WL.q 7 rfl fa42_0<|WL.r (Rd.ld rfl sc22 (hb.cell rfl))<|WL.m rfl<|WL.e (Ef.call rfl en25 (ref01_Add _ _ _ h0 h1 h2 h3) (fun _ h=>h.elim)) ?_
 rintro _ t1 ⟨s1,rfl⟩
 have hb:=hb.n s1
 refine WL.f (Fr.ncP rfl)<|WL.q 7 rfl fa46_1<|WL.q 7 rfl fa42_0<|WL.e0 (Ef.T [.int .u64 (tAdd x.now by_)] rfl rfl hb sz22 (.inr rfl)) ?_
 rintro _ t2 ⟨u2,s2,hb'⟩
 have hb:Bk t2 b [.int .i64 c.stripes,.int .i64 c.sessions,.int .i64 c.queue,.int .i64 c.watches,.int .i64 c.retries,.int .u64 c.epochs,.int .u64 c.start,.int .u64 (tAdd x.now by_),.int .u64 x.seq,.bool x.closed,bv,fv] _ _:=hb'
 clear hb'
 exact WL.nil<|WQ.end_ rfl .nil (hb)
theorem ref10_New (N:Nat) (c:Cfg) (t:TW) (hc:c.stripes ≤ 1000):Cal 12 [.agg (cfgC c).toArray] t No (fun r t' => ∃ b bv fv,r = .pointer (some ⟨b,0,none⟩) ∧ t.w.heap.size ≤ b ∧ Bk t' b (cfgC c ++ timeC ⟨c.start,0,false⟩ ++ [bv,fv]) 46 (.nw N 7)):=by
 have hz:t.w.heap.size ≤ t.w.heap.size:=Nat.le_refl _
 refine Cal.en Tryz.func12 rfl Tryz.ntmps12<|WC.rs<|WL.e (Ef.bx (.loc 1) (cs:=[.int .i64 c.stripes,.int .i64 c.sessions,.int .i64 c.queue,.int .i64 c.watches,.int .i64 c.retries,.int .u64 c.epochs,.int .u64 c.start]) rfl) ?_
 rintro _ t1 ⟨b1,rfl,s1,hb1,nb1,mb1⟩
 have hz:=Nat.le_trans hz s1.size
 refine WL.a rfl<|WL.go<|WC.rs<|WL.r (Rd.la rfl ag24 (hb1.at (vs:=[.int .i64 c.stripes,.int .i64 c.sessions,.int .i64 c.queue,.int .i64 c.watches,.int .i64 c.retries,.int .u64 c.epochs,.int .u64 c.start]) rfl))<|WL.f (Fr.bd (vs:=[(0,.agg #[.int .i64 c.stripes,.int .i64 c.sessions,.int .i64 c.queue,.int .i64 c.watches,.int .i64 c.retries,.int .u64 c.epochs,.int .u64 c.start])]) (cs:=#[.int .i64 c.stripes,.int .i64 c.sessions,.int .i64 c.queue,.int .i64 c.watches,.int .i64 c.retries,.int .u64 c.epochs,.int .u64 c.start,.int .u64 0,.int .u64 0,.bool false,.slice none 0 0,.slice none 0 0]) rfl (fun w=>by kernel_rfl))<|WL.e (Ef.bx (.nw N 7) (cs:=[.int .i64 c.stripes,.int .i64 c.sessions,.int .i64 c.queue,.int .i64 c.watches,.int .i64 c.retries,.int .u64 c.epochs,.int .u64 c.start,.int .u64 0,.int .u64 0,.bool false,.slice none 0 0,.slice none 0 0]) rfl) ?_
 rintro _ t2 ⟨b7,rfl,s2,hb7,nb7,mb7⟩
 obtain ⟨hb1,hz⟩:=Q2 (hb1.n s2) (Nat.le_trans hz s2.size)
 refine WL.a rfl<|WL.go<|WC.rs<|WL.m rfl<|WL.q 6 rfl fa24_6<|WL.r (Rd.ld rfl sc22 (hb1.cell rfl))<|WL.f (Fr.ncP rfl)<|WL.q 7 rfl fa46_1<|WL.q 7 rfl fa42_0<|WL.e0 (Ef.T [.int .u64 c.start] rfl rfl hb7 sz22 (.inl nb7)) ?_
 rintro _ t3 ⟨u3,s3,hb7'⟩
 have hb7:Bk t3 b7 [.int .i64 c.stripes,.int .i64 c.sessions,.int .i64 c.queue,.int .i64 c.watches,.int .i64 c.retries,.int .u64 c.epochs,.int .u64 c.start,.int .u64 c.start,.int .u64 0,.bool false,.slice none 0 0,.slice none 0 0] _ _:=hb7'
 clear hb7'
 obtain ⟨hb1,hz⟩:=Q2 (hb1.n s3) (Nat.le_trans hz s3.size)
 refine WL.go<|WC.seq<|WC.rs<|WL.a rfl<|WL.go<|WC.block<|WC.loop (σ:=Nat) (fun k t' => t.w.heap.size ≤ t'.w.heap.size ∧ Bk t' b1 [.int .i64 c.stripes,.int .i64 c.sessions,.int .i64 c.queue,.int .i64 c.watches,.int .i64 c.retries,.int .u64 c.epochs,.int .u64 c.start] 24 (.loc 1) ∧ k ≤ c.stripes.toNat ∧ (∃ bv fv fs,Bk t' b7 (cfgC c ++ timeC ⟨c.start,0,false⟩ ++ [bv,fv]) 46 (.nw N 7) ∧ Row t' (.nw N 8) t.w.heap.size 86 (kSl kUser) bv (List.replicate k []) ∧ Row t' (.nw N 9) t.w.heap.size 53 kPtr fv fs ∧ fs.length = k) ∧ True) (fun k=>[(1,.pointer (some ⟨b1,0,none⟩)),(2,.pointer none),(3,.pointer (some ⟨b7,0,none⟩)),(4,.int .i64 (k:Int))]) (fun k=>c.stripes.toNat - k) 0 ⟨rfl,rfl,rfl,rfl,trivial⟩ ⟨hz,hb1,Nat.zero_le _,⟨_,_,[],hb7,Row.nil _ _ _ _ _,Row.nil _ _ _ _ _,rfl⟩,trivial⟩ ?_
 rintro k t4 ⟨hz,hb1,hkl,hI,_⟩
 refine WC.seq<|WC.rs<|WL.m rfl<|WL.q 0 rfl fa24_0<|WL.r (Rd.ld rfl sc3 (hb1.cell rfl))<|WL.f (Fr.bo rfl rfl BO.lt)<|WL.go ?_
 refine WC.condS rfl (fun hcond17=>?_) (fun hcond17=>?_)
 ·have hlt:(k:Int) < c.stripes:=dcT hcond17
  refine WC.skip<|WQ.n<|WC.seq<|WC.block ?_
  obtain ⟨bv,fv,fs,hb7,hB,hF,hfl⟩:=hI
  obtain ⟨AB,cB,rfl,_⟩:=hB.form
  obtain ⟨AF,cF,rfl,_⟩:=hF.form
  refine WC.rs<|WL.m rfl<|WL.m rfl<|WL.f (Fr.ncP rfl)<|WL.q 10 rfl fa46_2<|WL.r (Rd.ld rfl sc43 (hb7.cell rfl))<|WL.e (Ef.bs (.loc 25) (vs:=[(0,.slice none 0 0)]) (cs:=[.slice none 0 0]) (e:=86) rfl (fun w=>by kernel_rfl)) ?_
  rintro _ t5 ⟨b25,rfl,s5,hb25,nb25,_⟩
  obtain ⟨hB,hF,hb1,hb7,hz⟩:=Q5 (hB.n s5) (hF.n s5) (hb1.n s5) (hb7.n s5) (Nat.le_trans hz s5.size)
  refine WL.e (Ef.ap1 (dk:=kSl kUser) (y1:=[]) rfl rfl hb25 (kUser_nil _) sl43 el86 (by decide) hB hz (by simp; omega) (by decide) nofun (.inl (Nat.le_refl _))) ?_
  rintro v26 t6 ⟨s6,hB2⟩
  obtain ⟨hF,hb1,hb7,hz⟩:=Q4 (hF.n s6) (hb1.n s6) (hb7.n s6) (Nat.le_trans hz s6.size)
  rw [show List.replicate k ([]:List (ByteArray × Entry)) ++ [[]] = List.replicate (k + 1) [] from (List.replicate_succ' (n:=k) (a:=([]:List (ByteArray × Entry)))).symm] at hB2
  obtain ⟨A2,c2,rfl,_⟩:=hB2.form
  refine WL.f (Fr.ncP rfl)<|WL.q 10 rfl fa46_2<|WL.e0 (Ef.T [.slice A2 (List.replicate (k + 1) ([]:List (ByteArray × Entry))).length c2] rfl rfl hb7 sz43 (.inl nb7)) ?_
  rintro _ t7 ⟨u7,s7,hb7'⟩
  have hb7:Bk t7 b7 [.int .i64 c.stripes,.int .i64 c.sessions,.int .i64 c.queue,.int .i64 c.watches,.int .i64 c.retries,.int .u64 c.epochs,.int .u64 c.start,.int .u64 c.start,.int .u64 0,.bool false,.slice A2 (List.replicate (k + 1) ([]:List (ByteArray × Entry))).length c2,.slice AF fs.length cF] _ _:=hb7'
  clear hb7'
  obtain ⟨hB2,hF,hb1,hz⟩:=Q4 (hB2.n s7) (hF.n s7) (hb1.n s7) (Nat.le_trans hz s7.size)
  refine WL.go<|WC.dr (fun w=>At w b1 2 [.int .i64 c.queue] ∧ True) (.blk (.then_ (.then_ (.blk (.then_ .body))))) (⟨hb1.at rfl,trivial⟩) ?_
  obtain ⟨hB2,hF,hb1,hb7,hz⟩:=Q5 (hB2.n (TW.drew_step _)) (hF.n (TW.drew_step _)) (hb1.n (TW.drew_step _)) (hb7.n (TW.drew_step _)) (Nat.le_trans hz (TW.drew_step _).size)
  refine DL.m 0 rfl rfl<|DL.m 1 rfl rfl<|DL.fx 2 rfl (Fr.ncP rfl)<|DL.fx 3 rfl (Fr.q 11 rfl fa46_3)<|DL.fx 5 rfl (Fr.q 2 rfl fa24_2)<|DL.hx 6 rfl (fun w hw=>Rd.ld rfl sc3 (hw.1.one rfl))<|DL.fx 7 rfl (Fr.bd (vs:=[(0,.int .i64 c.queue)]) (cs:=#[.int .i64 c.queue,.slice none 0 0,.slice none 0 0,.slice none 0 0,.slice none 0 0,.slice none 0 0,.slice none 0 0,.slice none 0 0,.slice none 0 0,.slice none 0 0,.bool false,.bool false,.bool false,.bool false,.bool false,.bool false,.bool false,.bool false]) rfl (fun w=>by kernel_rfl)) ?_
  refine DL.e2 (i:=4) (j:=8) (by kernel_rfl) ?_ ?_
  focus
   refine DOp.r rfl (Rd.ld rfl sc44 (hb7.cell rfl))<|DL.ex 8 rfl (Ef.bx (.loc 37) (cs:=[.int .i64 c.queue,.slice none 0 0,.slice none 0 0,.slice none 0 0,.slice none 0 0,.slice none 0 0,.slice none 0 0,.slice none 0 0,.slice none 0 0,.slice none 0 0,.bool false,.bool false,.bool false,.bool false,.bool false,.bool false,.bool false,.bool false]) rfl) (fun _ _ ⟨_,_,s,_⟩=>⟨hb1.a s,trivial⟩) ?_
   rintro _ t8 ⟨b37,rfl,s8,hb37,nb37,mb37⟩
   obtain ⟨hB2,hF,hb1,hb7,hz⟩:=Q5 (hB2.n s8) (hF.n s8) (hb1.n s8) (hb7.n s8) (Nat.le_trans hz s8.size)
   refine DL.ex 9 rfl (Ef.bs (.loc 38) (vs:=[(0,.pointer (some ⟨b37,0,none⟩))]) (cs:=[.pointer (some ⟨b37,0,none⟩)]) (e:=53) rfl (fun w=>by kernel_rfl)) (fun _ _ ⟨_,_,s,_⟩=>⟨hb1.a s,trivial⟩) ?_
   rintro _ t9 ⟨b38,rfl,s9,hb38,nb38,_⟩
   obtain ⟨hB2,hF,hb1,hb7,hz⟩:=Q5 (hB2.n s9) (hF.n s9) (hb1.n s9) (hb7.n s9) (Nat.le_trans hz s9.size)
   refine DL.ex 10 rfl (Ef.ap1 (dk:=kPtr) (y1:=b37) rfl rfl hb38 rfl sl44 el53 (by decide) hF hz (by omega) (by decide) nofun (.inl (Nat.le_refl _))) (fun _ _ ⟨s,_⟩=>⟨hb1.a s,trivial⟩) ?_
   rintro v39 t10 ⟨s10,hF2⟩
   obtain ⟨hB2,hb1,hb7,hz⟩:=Q4 (hB2.n s10) (hb1.n s10) (hb7.n s10) (Nat.le_trans hz s10.size)
   obtain ⟨A3,c3,rfl,_⟩:=hF2.form
   refine DL.fx 11 rfl (Fr.ncP rfl)<|DL.fx 12 rfl (Fr.q 11 rfl fa46_3)<|DL.e0x 13 rfl (Ef.T [.slice A3 (fs ++ [b37]).length c3] rfl rfl hb7 sz44 (.inl nb7)) (fun _ _ ⟨_,s,_⟩=>⟨hb1.a s,trivial⟩) ?_
   rintro _ t11 ⟨u11,s11,hb7'⟩
  rotate_left
  focus
   refine DOp.e rfl (Ef.bx (.loc 37) (cs:=[.int .i64 c.queue,.slice none 0 0,.slice none 0 0,.slice none 0 0,.slice none 0 0,.slice none 0 0,.slice none 0 0,.slice none 0 0,.slice none 0 0,.slice none 0 0,.bool false,.bool false,.bool false,.bool false,.bool false,.bool false,.bool false,.bool false]) rfl) (fun _ _ ⟨_,_,s,_⟩=>⟨hb1.a s,trivial⟩) ?_
   rintro _ t12 ⟨b37,rfl,s12,hb37,nb37,mb37⟩
   obtain ⟨hB2,hF,hb1,hb7,hz⟩:=Q5 (hB2.n s12) (hF.n s12) (hb1.n s12) (hb7.n s12) (Nat.le_trans hz s12.size)
   refine DL.e2 (i:=4) (j:=9) (by kernel_rfl) ?_ ?_
   focus
    refine DOp.r rfl (Rd.ld rfl sc44 (hb7.cell rfl))<|DL.ex 9 rfl (Ef.bs (.loc 38) (vs:=[(0,.pointer (some ⟨b37,0,none⟩))]) (cs:=[.pointer (some ⟨b37,0,none⟩)]) (e:=53) rfl (fun w=>by kernel_rfl)) (fun _ _ ⟨_,_,s,_⟩=>⟨hb1.a s,trivial⟩) ?_
    rintro _ t13 ⟨b38,rfl,s13,hb38,nb38,_⟩
    obtain ⟨hB2,hF,hb1,hb7,hz⟩:=Q5 (hB2.n s13) (hF.n s13) (hb1.n s13) (hb7.n s13) (Nat.le_trans hz s13.size)
    refine DL.ex 10 rfl (Ef.ap1 (dk:=kPtr) (y1:=b37) rfl rfl hb38 rfl sl44 el53 (by decide) hF hz (by omega) (by decide) nofun (.inl (Nat.le_refl _))) (fun _ _ ⟨s,_⟩=>⟨hb1.a s,trivial⟩) ?_
    rintro v39 t14 ⟨s14,hF2⟩
    obtain ⟨hB2,hb1,hb7,hz⟩:=Q4 (hB2.n s14) (hb1.n s14) (hb7.n s14) (Nat.le_trans hz s14.size)
    obtain ⟨A3,c3,rfl,_⟩:=hF2.form
    refine DL.fx 11 rfl (Fr.ncP rfl)<|DL.fx 12 rfl (Fr.q 11 rfl fa46_3)<|DL.e0x 13 rfl (Ef.T [.slice A3 (fs ++ [b37]).length c3] rfl rfl hb7 sz44 (.inl nb7)) (fun _ _ ⟨_,s,_⟩=>⟨hb1.a s,trivial⟩) ?_
    rintro _ t11 ⟨u15,s11,hb7'⟩
   rotate_left
   focus
    refine DOp.e rfl (Ef.bs (.loc 38) (vs:=[(0,.pointer (some ⟨b37,0,none⟩))]) (cs:=[.pointer (some ⟨b37,0,none⟩)]) (e:=53) rfl (fun w=>by kernel_rfl)) (fun _ _ ⟨_,_,s,_⟩=>⟨hb1.a s,trivial⟩) ?_
    rintro _ t16 ⟨b38,rfl,s16,hb38,nb38,_⟩
    obtain ⟨hB2,hF,hb1,hb7,hz⟩:=Q5 (hB2.n s16) (hF.n s16) (hb1.n s16) (hb7.n s16) (Nat.le_trans hz s16.size)
    refine DL.rx 4 rfl (Rd.ld rfl sc44 (hb7.cell rfl))<|DL.ex 10 rfl (Ef.ap1 (dk:=kPtr) (y1:=b37) rfl rfl hb38 rfl sl44 el53 (by decide) hF hz (by omega) (by decide) nofun (.inl (Nat.le_refl _))) (fun _ _ ⟨s,_⟩=>⟨hb1.a s,trivial⟩) ?_
    rintro v39 t17 ⟨s17,hF2⟩
    obtain ⟨hB2,hb1,hb7,hz⟩:=Q4 (hB2.n s17) (hb1.n s17) (hb7.n s17) (Nat.le_trans hz s17.size)
    obtain ⟨A3,c3,rfl,_⟩:=hF2.form
    refine DL.fx 11 rfl (Fr.ncP rfl)<|DL.fx 12 rfl (Fr.q 11 rfl fa46_3)<|DL.e0x 13 rfl (Ef.T [.slice A3 (fs ++ [b37]).length c3] rfl rfl hb7 sz44 (.inl nb7)) (fun _ _ ⟨_,s,_⟩=>⟨hb1.a s,trivial⟩) ?_
    rintro _ t11 ⟨u18,s11,hb7'⟩
  all_goals
   have hb7:Bk t11 b7 [.int .i64 c.stripes,.int .i64 c.sessions,.int .i64 c.queue,.int .i64 c.watches,.int .i64 c.retries,.int .u64 c.epochs,.int .u64 c.start,.int .u64 c.start,.int .u64 0,.bool false,.slice A2 (List.replicate (k + 1) ([]:List (ByteArray × Entry))).length c2,.slice A3 (fs ++ [b37]).length c3] _ _:=hb7'
   clear hb7'
   obtain ⟨hB2,hF2,hb1,hz⟩:=Q4 (hB2.n s11) (hF2.n s11) (hb1.n s11) (Nat.le_trans hz s11.size)
   refine DL.D<|WQ.bn<|WQ.n<|WC.rg<|WL.m rfl<|WL.f (Fr.bo rfl rfl (BO.add (by omega) (by omega)))<|WL.a rfl<|WL.nil ?_
   have hI2:∃ bv fv fs,Bk t11 b7 (cfgC c ++ timeC ⟨c.start,0,false⟩ ++ [bv,fv]) 46 (.nw N 7) ∧ Row t11 (.nw N 8) t.w.heap.size 86 (kSl kUser) bv (List.replicate (k + 1) []) ∧ Row t11 (.nw N 9) t.w.heap.size 53 kPtr fv fs ∧ fs.length = k + 1:=⟨_,_,_,hb7,hB2,hF2,by simp [hfl]⟩
   exact WQ.again (k + 1) ⟨rfl,rfl,rfl,rfl,trivial⟩ ⟨hz,hb1,(by omega),hI2,trivial⟩ (by omega)
 refine WC.exit<|WQ.tx<|WQ.tx<|WQ.bx<|WQ.n<|WC.rs<|WL.m rfl<|WL.a rfl<|WL.go<|WC.ret ?_
 exact WQ.ret rfl (.tmp rfl .nil) (by obtain ⟨bv,fv,fs,hb7,_⟩:=hI; exact ⟨_,_,_,rfl,nb7,hb7⟩)
theorem ref20_Order {v:Value} {l:List CallS} (t:TW) (hl:Sl t kCall v l) (hn:l.length ≤ 900000):Cal 11 [v] t No (fun r t' => Sl t' (kInt .i64) r (iL (ordS l))):=by
 obtain ⟨Al,cl,rfl,_⟩:=hl.form
 have hz:t.w.heap.size ≤ t.w.heap.size:=Nat.le_refl _
 refine Cal.en Tryz.func11 rfl Tryz.ntmps11<|WC.rs<|WL.a rfl<|WL.go<|WC.rs<|WL.a rfl<|WL.go<|WC.rs<|WL.m rfl<|WL.f (Fr.ln rfl Tryz.underlying35) ?_
 refine WL.e (Ef.ms (.loc 10) (m:=l.length) sl83 el4 rfl rfl rfl (by omega) (by decide)) ?_
 rintro _ t1 ⟨b10,rfl,s1,hU0,n10,m10⟩
 obtain ⟨hl,hz⟩:=Q2 (hl.n s1) (Nat.le_trans hz s1.size)
 have hU:Bk t1 b10 (bC (oGo l 0).1) 4 (.loc 10):=by simpa [bC,oGo] using hU0
 refine WL.a rfl<|WL.go<|WC.seq<|WC.rs<|WL.a rfl<|WL.go<|WC.block<|WC.loop (σ:=Nat × Value) (fun p t' => Sl t' kCall (.slice Al l.length cl) l ∧ t.w.heap.size ≤ t'.w.heap.size ∧ p.1 ≤ l.length ∧ Bk t' b10 (bC (oGo l p.1).1) 4 (.loc 10) ∧ Row t' (.loc 63) t.w.heap.size 3 (kInt .i64) p.2 (iL (oGo l p.1).2) ∧ True) (fun p=>[(0,.slice Al l.length cl),(3,p.2),(4,.slice (some ⟨b10,0,none⟩) l.length l.length),(5,.int .i64 (p.1:Int))]) (fun p=>l.length - p.1) (0,.slice none 0 0) ⟨rfl,rfl,rfl,rfl,trivial⟩ ⟨hl,hz,Nat.zero_le _,hU,Row.nil _ _ _ _ _,trivial⟩ ?_
 rintro ⟨n,ov⟩ t2 ⟨hl,hz,hnl,hU,ho,_⟩
 simp only at hnl hU ho
 obtain ⟨hul,hol⟩:=oGo_len l n
 obtain ⟨u,hu⟩:∃ u,u = (oGo l n).1:=⟨_,rfl⟩
 obtain ⟨o,hou⟩:∃ o,o = (oGo l n).2:=⟨_,rfl⟩
 rw [← hu] at hU hul
 rw [← hou] at ho hol
 obtain ⟨Ao,co,rfl,_⟩:=ho.form
 refine WC.seq<|WC.rs<|WL.m rfl<|WL.m rfl<|WL.f (Fr.ln rfl Tryz.underlying35)<|WL.f (Fr.bo rfl rfl BO.lt)<|WL.go ?_
 refine WC.condS rfl (fun hcond14=>?_) (fun hcond14=>?_)
 ·have hlt:n < l.length:=by have:=dcT hcond14; omega
  refine WC.skip<|WQ.n<|WC.seq<|WC.block<|WC.rs<|WL.a rfl<|WL.go<|WC.seq<|WC.rs<|WL.m rfl ?_
  refine WL.f (Fr.ln rfl Tryz.underlying35)<|WL.f (Fr.bo rfl rfl (BO.sub (by omega) (by omega)))<|WL.a rfl<|WL.go<|WC.block<|WC.loop (σ:=Nat) (fun m t' => Sl t' kCall (.slice Al l.length cl) l ∧ t.w.heap.size ≤ t'.w.heap.size ∧ Bk t' b10 (bC u) 4 (.loc 10) ∧ Row t' (.loc 63) t.w.heap.size 3 (kInt .i64) (.slice Ao (iL o).length co) (iL o) ∧ m ≤ l.length ∧ True) (fun m=>[(0,.slice Al l.length cl),(3,.slice Ao (iL o).length co),(4,.slice (some ⟨b10,0,none⟩) l.length l.length),(5,.int .i64 (n:Int)),(6,.int .i64 (bI (oScan l u m))),(7,.int .i64 ((l.length:Int) - ((m:Int) + 1)))]) (fun m=>l.length - m) 0 ⟨rfl,rfl,rfl,rfl,rfl,rfl,trivial⟩ ⟨hl,hz,hU,ho,Nat.zero_le _,trivial⟩ ?_
  rintro m t3 ⟨hl,hz,hU,ho,hml,_⟩
  refine WC.seq<|WC.rs<|WL.m rfl<|WL.f (Fr.bo rfl rfl BO.ge)<|WL.go ?_
  refine WC.condS rfl (fun hcond21=>?_) (fun hcond21=>?_)
  ·have hm:m < l.length:=by have:=dcT hcond21; omega
   obtain ⟨ix,hix⟩:∃ ix:Nat,ix = l.length - 1 - m:=⟨_,rfl⟩
   have hei:((l.length:Int) - ((m:Int) + 1)) = (ix:Int):=by omega
   have hxl:ix < l.length:=by omega
   have hnx:oScan l u (m + 1) = oStep l u (oScan l u m) ix:=by rw [hix]; rfl
   refine WC.skip<|WQ.n<|WC.seq<|WC.block ?_
   refine WC.seqJ (σ:=Unit) (fun _ t' => Sl t' kCall (.slice Al l.length cl) l ∧ t.w.heap.size ≤ t'.w.heap.size ∧ Bk t' b10 (bC u) 4 (.loc 10) ∧ Row t' (.loc 63) t.w.heap.size 3 (kInt .i64) (.slice Ao (iL o).length co) (iL o) ∧ True) (fun _=>[(0,.slice Al l.length cl),(3,.slice Ao (iL o).length co),(4,.slice (some ⟨b10,0,none⟩) l.length l.length),(5,.int .i64 (n:Int)),(6,.int .i64 (bI (oScan l u m))),(7,.int .i64 ((l.length:Int) - ((m:Int) + 1))),(53,.bool (oTk l u (oScan l u m) ix))]) ?_ ?_
   ·refine WC.dr (fun w=>w = t3.drew.w) (.then_ (.blk (.then_ (.then_ (.blk (.then_ (.blk (.then_ (.then_ (.blk (.then_ .body))))))))))) (rfl) ?_
    obtain ⟨hU,hl,ho,hz⟩:=Q4 (hU.n (TW.drew_step _)) (hl.n (TW.drew_step _)) (ho.n (TW.drew_step _)) (Nat.le_trans hz (TW.drew_step _).size)
    refine DL.m 0 rfl rfl<|DL.m 1 rfl rfl ?_
    obtain ⟨bi,oi,ci,di,eqi,_,⟨ui,vi,ei,rfl,_,_,_⟩,hAi,_,_⟩:=hl.at_ (List.getElem?_eq_getElem hxl)
    obtain ⟨hAq,_,_⟩:=Value.slice.inj eqi
    have hpi:=pl_at hxl
    have hcu:=bC_get (u:=u) (i:=ix) (by omega)
    refine DL.fx 2 rfl (Fr.ix (congrArg (fun A=>some (Value.slice A l.length cl)) hAq) rfl sl35 (by omega) (by omega) (o' := oi + ix * 18) (by rw [hei]; simp))<|DL.fx 3 rfl (Fr.fa rfl fa61_6 (o' := oi + ix * 18 + 12))<|DL.rx 4 rfl (Rd.ld rfl sc3 (hAi 12 _ rfl))<|DL.fx 5 rfl (Fr.bo rfl rfl BO.ge)<|DL.m 6 rfl rfl ?_
    refine DL.pin 30 rfl (fun hp30=>?_) (fun hp30=>?_)
    ·refine DL.m 7 rfl rfl<|DL.m 8 rfl rfl<|DL.fx 9 rfl (Fr.ix rfl rfl sl83 (by omega) (by omega) (o' := ix) (by rw [hei]; simp))<|DL.rx 10 rfl (Rd.ld rfl sc4 (hU.cell hcu))<|DL.fx 11 rfl (Fr.un_not rfl)<|DL.fx 12 rfl (Fr.pkT rfl rfl)<|DL.m 13 rfl rfl ?_
     refine DL.pin 37 rfl (fun hp37=>?_) (fun hp37=>?_)
     ·refine DL.m 14 rfl rfl<|DL.fx 15 rfl (Fr.bo rfl rfl BO.lt)<|DL.m 16 rfl rfl ?_
      refine DL.pin 40 rfl (fun hp40=>?_) (fun hp40=>?_)
      ·refine DL.sx 17 rfl<|DL.sx 18 rfl<|DL.sx 19 rfl<|DL.sx 20 rfl<|DL.sx 21 rfl<|DL.sx 22 rfl<|DL.sx 23 rfl<|DL.sx 24 rfl<|DL.sx 25 rfl<|DL.sx 26 rfl ?_
       exact DL.sx 27 rfl<|DL.fx 28 rfl (Fr.pkT rfl rfl)<|DL.fx 29 rfl (Fr.pkT rfl rfl)<|DL.D<|WQ.join () ⟨rfl,rfl,rfl,rfl,rfl,rfl,by rw [show oTk l u (oScan l u m) ix = true by unfold oTk; rw [hpi,hp30,hp37,bI_neg (dcT hp40)]; rfl]; rfl,trivial⟩ ⟨hl,hz,hU,ho,trivial⟩
      obtain ⟨jb,hjb⟩:=bI_some (dcF hp40)
      have hjl:=oScan_lt (by omega) hjb
      obtain ⟨bj,oj,cj,dj,eqj,_,⟨uj,vj,ej,rfl,_,_,_⟩,hAj,_,_⟩:=hl.at_ (List.getElem?_eq_getElem hjl)
      obtain ⟨hAk,_,_⟩:=Value.slice.inj eqj
      have hpj:=pl_at hjl
      refine DL.m 17 rfl rfl<|DL.m 18 rfl rfl<|DL.fx 19 rfl (Fr.ix (congrArg (fun A=>some (Value.slice A l.length cl)) hAq) rfl sl35 (by omega) (by omega) (o' := oi + ix * 18) (by rw [hei]; simp))<|DL.fx 20 rfl (Fr.fa rfl fa61_6 (o' := oi + ix * 18 + 12))<|DL.m 22 rfl rfl<|DL.m 23 rfl rfl<|DL.fx 24 rfl (Fr.ix (congrArg (fun A=>some (Value.slice A l.length cl)) hAk) rfl sl35 (by rw [hjb]; simp [bI]) (by rw [hjb]; simp [bI]; omega) (o' := oj + jb * 18) (by rw [hjb]; simp [bI]))<|DL.fx 25 rfl (Fr.fa rfl fa61_6 (o' := oj + jb * 18 + 12))<|DL.hx 21 rfl (fun w hw=>by subst hw; exact Rd.ld rfl sc3 (hAi 12 _ rfl))<|DL.rx 26 rfl (Rd.ld rfl sc3 (hAj 12 _ rfl)) ?_
      exact DL.fx 27 rfl (Fr.bo rfl rfl BO.le)<|DL.fx 28 rfl (Fr.pkF rfl rfl)<|DL.fx 29 rfl (Fr.pkT rfl rfl)<|DL.D<|WQ.join () ⟨rfl,rfl,rfl,rfl,rfl,rfl,by rw [show oTk l u (oScan l u m) ix = decide (l[ix].placed ≤ l[jb].placed) by unfold oTk; rw [hpi,hp30,hp37,hjb]; show (true && true && decide (l[ix].placed ≤ pl l jb)) = _; rw [hpj]; rfl]; rfl,trivial⟩ ⟨hl,hz,hU,ho,trivial⟩
     refine DL.sx 14 rfl<|DL.sx 15 rfl<|DL.sx 16 rfl<|DL.sx 17 rfl<|DL.sx 18 rfl<|DL.sx 19 rfl<|DL.sx 20 rfl<|DL.sx 21 rfl<|DL.sx 22 rfl<|DL.sx 23 rfl ?_
     exact DL.sx 24 rfl<|DL.sx 25 rfl<|DL.sx 26 rfl<|DL.sx 27 rfl<|DL.sx 28 rfl<|DL.fx 29 rfl (Fr.pkF rfl rfl)<|DL.D<|WQ.join () ⟨rfl,rfl,rfl,rfl,rfl,rfl,by rw [show oTk l u (oScan l u m) ix = false by unfold oTk; rw [hpi,hp30,hp37]; rfl]; rfl,trivial⟩ ⟨hl,hz,hU,ho,trivial⟩
    refine DL.sx 7 rfl<|DL.sx 8 rfl<|DL.sx 9 rfl<|DL.sx 10 rfl<|DL.sx 11 rfl<|DL.fx 12 rfl (Fr.pkF rfl rfl)<|DL.m 13 rfl rfl<|DL.sx 14 rfl<|DL.sx 15 rfl<|DL.sx 16 rfl ?_
    refine DL.sx 17 rfl<|DL.sx 18 rfl<|DL.sx 19 rfl<|DL.sx 20 rfl<|DL.sx 21 rfl<|DL.sx 22 rfl<|DL.sx 23 rfl<|DL.sx 24 rfl<|DL.sx 25 rfl<|DL.sx 26 rfl ?_
    exact DL.sx 27 rfl<|DL.sx 28 rfl<|DL.fx 29 rfl (Fr.pkF rfl rfl)<|DL.D<|WQ.join () ⟨rfl,rfl,rfl,rfl,rfl,rfl,by rw [show oTk l u (oScan l u m) ix = false by unfold oTk; rw [hpi,hp30]; rfl]; rfl,trivial⟩ ⟨hl,hz,hU,ho,trivial⟩
   rintro _ t4 ⟨hl,hz,hU,ho,_⟩
   refine WC.condS rfl (fun hcond53=>?_) (fun hcond53=>?_)
   ·refine WC.rg<|WL.m rfl<|WL.a rfl<|WL.nil<|WQ.bn<|WQ.n<|WC.rg<|WL.m rfl<|WL.f (Fr.bo rfl rfl (BO.sub (by omega) (by omega)))<|WL.a rfl ?_
    exact WL.nil<|WQ.again (m + 1) ⟨rfl,rfl,rfl,rfl,by rw [hnx]; unfold oStep; rw [if_pos hcond53]; show _ = some (Value.int .i64 ((ix:Nat):Int)); rw [← hei]; rfl,by rw [show (l.length:Int) - (((m + 1:Nat):Int) + 1) = (l.length:Int) - ((m:Int) + 1) - 1 by omega]; rfl,trivial⟩ ⟨hl,hz,hU,ho,hm,trivial⟩ (by omega)
   exact WC.skip<|WQ.bn<|WQ.n<|WC.rg<|WL.m rfl<|WL.f (Fr.bo rfl rfl (BO.sub (by omega) (by omega)))<|WL.a rfl<|WL.nil<|WQ.again (m + 1) ⟨rfl,rfl,rfl,rfl,by rw [hnx]; unfold oStep; rw [if_neg (by rw [hcond53]; decide)]; rfl,by rw [show (l.length:Int) - (((m + 1:Nat):Int) + 1) = (l.length:Int) - ((m:Int) + 1) - 1 by omega]; rfl,trivial⟩ ⟨hl,hz,hU,ho,hm,trivial⟩ (by omega)
  have hme:m = l.length:=by have:=dcF hcond21; omega
  refine WC.exit<|WQ.tx<|WQ.tx<|WQ.bx<|WQ.n<|WC.rs<|WL.m rfl<|WL.f (Fr.bo rfl rfl BO.ge)<|WL.go ?_
  refine WC.condS rfl (fun hcond56=>?_) (fun hcond56=>?_)
  ·obtain ⟨j,hj⟩:=bI_some (o:=oScan l u m) (by have:=dcT hcond56; omega)
   have hjl:=oScan_lt hml hj
   refine WC.rs<|WL.m rfl<|WL.m rfl<|WL.f (Fr.ix rfl rfl sl83 (by rw [hj]; simp [bI]) (by rw [hj]; simp [bI]; omega) (o' := j) (by rw [hj]; simp [bI]))<|WL.e0 (Ef.st (vs:=[.bool true]) rfl rfl hU rfl (by simp [Value.oneCell']) sz4 rfl (by simp; omega) (.inl n10)) ?_
   rintro _ t5 ⟨u5,s5,hU2⟩
   obtain ⟨hl,ho,hz⟩:=Q3 (hl.n s5) (ho.n s5) (Nat.le_trans hz s5.size)
   rw [bC_put (by omega)] at hU2
   refine WL.go<|WC.rg<|WL.m rfl<|WL.m rfl<|WL.e (Ef.bs (.loc 62) (vs:=[(0,.int .i64 (bI (oScan l u m)))]) (cs:=[.int .i64 (bI (oScan l u m))]) (e:=3) rfl (fun w=>by kernel_rfl)) ?_
   rintro _ t6 ⟨b62,rfl,s6,hb62,nb62,_⟩
   obtain ⟨hU2,hl,ho,hz⟩:=Q4 (hU2.n s6) (hl.n s6) (ho.n s6) (Nat.le_trans hz s6.size)
   refine WL.e (Ef.ap1 (y1:=(j:Int)) rfl rfl hb62 (by rw [hj]; rfl) sl37 el3 (by decide) ho hz (by simp; omega) (by decide) nofun (.inl (Nat.le_refl _))) ?_
   rintro v63 t7 ⟨s7,ho2⟩
   obtain ⟨hU2,hl,hz⟩:=Q3 (hU2.n s7) (hl.n s7) (Nat.le_trans hz s7.size)
   refine WL.a rfl<|WL.nil<|WQ.bn<|WQ.n<|WC.rg<|WL.m rfl<|WL.f (Fr.bo rfl rfl (BO.add (by omega) (by omega)))<|WL.a rfl<|WL.nil ?_
   have hgo:oGo l (n + 1) = (u.set j true,o ++ [j]):=by rw [hme] at hj; rw [hu] at hj ⊢; rw [hou]; show (match oScan l (oGo l n).1 l.length with | none=>oGo l n | some j=>((oGo l n).1.set j true,(oGo l n).2 ++ [j])) = _; rw [hj]
   exact WQ.again (n + 1,v63) ⟨rfl,rfl,rfl,rfl,trivial⟩ ⟨hl,hz,(by simp only; omega),(by rw [hgo]; exact hU2),(by rw [hgo]; simpa using ho2),trivial⟩ (by simp only; omega)
  refine WC.skip<|WQ.bn<|WQ.n<|WC.rg<|WL.m rfl<|WL.f (Fr.bo rfl rfl (BO.add (by omega) (by omega)))<|WL.a rfl<|WL.nil ?_
  have hj0:=bI_neg (o:=oScan l u m) (by have:=dcF hcond56; omega)
  have hgo:oGo l (n + 1) = oGo l n:=by rw [hme,hu] at hj0; show (match oScan l (oGo l n).1 l.length with | none=>oGo l n | some j=>((oGo l n).1.set j true,(oGo l n).2 ++ [j])) = _; rw [hj0]
  exact WQ.again (n + 1,.slice Ao (iL o).length co) ⟨rfl,rfl,rfl,rfl,trivial⟩ ⟨hl,hz,(by simp only; omega),(by rw [hgo,← hu]; exact hU),(by rw [hgo,← hou]; exact ho),trivial⟩ (by simp only; omega)
 have hge:n = l.length:=by have:=dcF hcond14; omega
 refine WC.exit<|WQ.tx<|WQ.tx<|WQ.bx<|WQ.n<|WC.rs<|WL.m rfl<|WL.a rfl<|WL.go<|WC.ret ?_
 exact WQ.tag _ .fz (.inl ho.base)<|WQ.ret rfl (.tmp rfl .nil) (by subst hge; unfold ordS; rw [← hou]; exact ho.freeze nofun)
end Go.Proofs.YthilcgjhhhmgoaaGreat.X
