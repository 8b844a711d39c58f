/- One part of the proof: XBase, PBase, XOps, XTypes, XDraw, XRow, XKinds, XOpen, PModel, POrd, POmap, PSweep, POrd2, PFeed, PHall, PWrite, PMerge, XEls, XIns. No condition beyond those that each theorem names. -/
import Derived.Test.YthilcgjhhhmgoaaGreatProg
import Derived.OrdersHeld
import Derived.KernelRfl
import Derived.Tactics
import Derived.Laws.AppendOwn
import Derived.Deep.MidRow
import Derived.Laws.CopyRow
import Derived.Deep.LoopGhost
import Derived.Below
import GoSem.Op.IntArith
import GoSem.Op.String
import Derived.Laws.Strings
import Derived.Laws.MakeOwn
import Derived.Maps.AppendAt
import Derived.Deep.Slices
import Derived.DataReads
import Derived.ChangeSame
import Derived.OpenShut
import Derived.Lib.Overlaps
set_option linter.unusedVariables false
set_option linter.unusedSimpArgs false
set_option linter.unusedSectionVars false
namespace Go.Proofs.YthilcgjhhhmgoaaGreat.X
open Tryz
abbrev aP8:=@Nat.le_trans
abbrev aP9:=@Nat.le_refl
abbrev aQA:=@List.getElem?_eq_getElem
abbrev aQB:=@Option.some.inj
abbrev aQC:=@Nat.zero_le
abbrev aQD:=@List.length_take
abbrev aQE:=@List.length_append
abbrev aQF:=@Nat.zero_add
abbrev aQG:=@List.getElem?_eq_some_iff
abbrev aQH:=@List.length_cons
abbrev aQI:=@Nat.le_succ
abbrev aQJ:=@decide_eq_true
abbrev aQK:=@Int.le_refl
abbrev aQL:=@List.mem_of_getElem?
abbrev aQM:=@Nat.mul_le_mul_right
abbrev aQN:=@List.getElem_mem
abbrev aQO:=@List.length_nil
abbrev aQP:=@Int.toNat_natCast
abbrev aQQ:=@List.getD_eq_getElem?_getD
abbrev aQR:=@List.mem_singleton
abbrev aQS:=@decide_eq_false
abbrev aQT:=@List.length_drop
abbrev aQU:=@List.take_length
abbrev aQV:=@Bool.and_eq_true
abbrev aQW:=@Nat.not_lt_zero
abbrev aQX:=@List.mem_append
abbrev aQY:=@List.take_succ_eq_append_getElem
abbrev aQZ:=@List.length_set
abbrev aQ0:=@Nat.add_mul
abbrev aQ1:=@Nat.le_of_lt
abbrev aQ2:=@Nat.blt
abbrev aQ3:=@Nat.min_eq_left
abbrev aQ4:=@List.Pairwise.nil
abbrev aQ5:=@List.length_map
abbrev aQ6:=@List.append_assoc
abbrev aQ7:=@List.getElem?_append_right
abbrev aQ8:=@List.getElem?_set_self
abbrev aQ9:=@List.getElem?_take
abbrev aRA:=@List.length_filter_le
abbrev aRB:=@List.nil_append
abbrev aRC:=@List.map_cons
abbrev aRD:=@Int.natCast_nonneg
abbrev aRE:=@Bool.false_ne_true
abbrev aRF:=@List.foldl_append
abbrev aRG:=@List.foldl_cons
abbrev aRH:=@List.getElem?_of_mem
abbrev aRI:=@List.getElem?_append_left
abbrev aRJ:=@List.getElem?_eq_none
abbrev aRK:=@List.mem_cons_self
abbrev aRL:=@List.mem_map
abbrev aRM:=@List.getElem?_drop
abbrev aRN:=@List.getElem?_set_ne
abbrev aRO:=@List.mem_cons
abbrev aRP:=@List.map_toArray
abbrev aRQ:=@List.mem_cons_of_mem
abbrev aRR:=@List.pairwise_append
abbrev aRS:=@Int.eq_ofNat_of_zero_le
abbrev aRT:=@List.getElem_of_mem
abbrev aRU:=@Nat.le_of_ble_eq_true
abbrev aRV:=@Option.map_some
abbrev aRW:=@Bool.or_eq_true
abbrev aRX:=@List.any_eq_true
abbrev aRY:=@List.length_range
abbrev aRZ:=@List.mem_range
abbrev aR0:=@List.take_of_length_le
abbrev aR1:=@Nat.lt_of_le_of_lt
abbrev aR2:=@Bool.not_eq_true'
abbrev aR3:=@List.append_nil
abbrev aR4:=@Bool.true_and
abbrev aR5:=@Exists.elim
abbrev aR6:=@List.eq_nil_of_length_eq_zero
abbrev aR7:=@List.getElem?_map
abbrev aR8:=@List.length_modify
abbrev aR9:=@List.map_append
abbrev aSA:=@List.take_append_drop
abbrev aSB:=@Nat.one_mul
abbrev aSC:=@List.eraseIdx_eq_take_drop_succ
abbrev aSD:=@List.filter_cons_of_neg
abbrev aSE:=@List.getElem?_replicate
abbrev aSF:=@List.length_eraseIdx
abbrev aSG:=@List.take_take
abbrev aSH:=@Nat.le_add_right
abbrev aSI:=@Nat.lt_of_lt_of_le
abbrev aSJ:=@Nat.sub_self
abbrev aSK:=@Nat.zero_mul
abbrev aSL:=@Bool.and_true
abbrev aSM:=@List.filter_append
abbrev aSN:=@List.filter_cons_of_pos
abbrev aSO:=@List.find?_cons_of_neg
abbrev aSP:=@List.find?_cons_of_pos
abbrev aSQ:=@List.find?_eq_none
abbrev aSR:=@List.mem_of_mem_drop
abbrev aSS:=@List.of_mem_zip
abbrev aST:=@List.take_append_of_le_length
abbrev aSU:=@Nat.lt_or_ge
abbrev aSV:=@Nat.lt_succ_iff_lt_or_eq
abbrev aSW:=@Nat.lt_succ_self
abbrev aSX:=@Prod.mk.injEq
abbrev aSY:=@Bool.and_false
abbrev aSZ:=@Bool.or_false
abbrev aS0:=@List.all_eq_true
abbrev aS1:=@List.drop_eq_getElem_cons
abbrev aS2:=@List.drop_of_length_le
abbrev aS3:=@List.filter_nil
abbrev aS4:=@List.map_nil
abbrev aS5:=@List.not_mem_nil
abbrev aS6:=@List.pairwise_singleton
abbrev aS7:=@List.range_succ
abbrev aS8:=@List.sum_cons
abbrev aS9:=@Option.any_some
abbrev aTA:=@List.all_eq_false
abbrev aTB:=@List.drop_drop
abbrev aTC:=@List.drop_take
abbrev aTD:=@List.find?_append
abbrev aTE:=@List.mem_append_left
abbrev aTF:=@List.pairwise_cons
abbrev aTG:=@List.set_eq_take_append_cons_drop
abbrev aTH:=@Nat.eq_of_beq_eq_true
abbrev aTI:=@Nat.le_succ_of_le
abbrev aTJ:=@Array.empty_append
abbrev aTK:=@Array.getElem?_eq_some_iff
abbrev aTL:=@List.eq_of_mem_replicate
abbrev aTM:=@List.ext_getElem?
abbrev aTN:=@List.filter_eq_self
abbrev aTO:=@List.getElem?_modify
abbrev aTP:=@List.getElem?_set
abbrev aTQ:=@List.length_replicate
abbrev aTR:=@List.mem_append_right
abbrev aTS:=@Nat.lt_or_eq_of_le
abbrev aTT:=@Nat.lt_trichotomy
abbrev aTU:=@List.getElem?_eraseIdx
abbrev aTV:=@List.length_eraseIdx_of_lt
abbrev aTW:=@List.mem_of_mem_eraseIdx
abbrev aTX:=@List.pairwise_iff_getElem
abbrev aTY:=@Option.isSome_iff_exists
theorem Z {α:Sort _} {a:α}:a=a:=rfl
abbrev O (i:Int):Value:=.int .i64 i
abbrev U (i:Int):Value:=.int .u64 i
abbrev Y (b:Nat):Value:=.pointer (some ⟨b,0,none⟩)
theorem aTZ {P:Prop} (h:P:=by omega):P:=h
theorem aT0 {P:Prop} (h:P:=by decide):P:=h
theorem aT1 {P:Prop} (h:P:=by kernel_rfl):P:=h
theorem aT2 {P:Prop} (h:P:=by exact fun _ h=>h.elim):P:=h
theorem aT3 {P:Prop} (h:P:=by exact fun _=>id):P:=h
theorem aT4 {P:Prop} (h:P:=by simp):P:=h
theorem aT5 {P:Prop} (h:P:=by simp only;omega):P:=h
theorem aT6 {P:Prop} (h:P:=by exact fun _=>nofun):P:=h
theorem aT7 {P:Prop} (h:P:=by exact fun _ _ _=>trivial):P:=h
theorem aT8 {P:Prop} (h:P:=by simp;omega):P:=h
theorem aT9 {P:Prop} (h:P:=by simp[Value.oneCell']):P:=h
theorem aUA {P:Prop} (h:P:=by rw[aQD];omega):P:=h
theorem aUB {P:Prop} (h:P:=by rintro (h|h|h)<;>cases h):P:=h
theorem aUC {P:Prop} (h:P:=by exact fun _ _ ⟨s,_⟩=>⟨aG.a s,aG.a s,trivial⟩):P:=h
theorem aUD {P:Prop} (h:P:=by exact fun _ _ ⟨s,_⟩=>⟨aG.a s,aG.a s,aK.a s,trivial⟩):P:=h
theorem aUE {P:Prop} (h:P:=by rintro (h|h)<;>cases h):P:=h
theorem aUF {P:Prop} (h:P:=by rw[hj];simp[bI]):P:=h
theorem aUG {P:Prop} (h:P:=by exact fun _ _ ⟨_,_,s,_⟩=>⟨aG.a s,aG.a s,trivial⟩):P:=h
theorem aUH {P:Prop} (h:P:=by first|omega|(simp only[aQE,aQH,aQO];omega)):P:=h
theorem aUI {P:Prop} (h:P:=by rintro (h|h|⟨i,h⟩)<;>cases h):P:=h
theorem aUJ {P:Prop} (h:P:=by rintro _ rfl;exact .inr fun k hk=>hN k hk 31):P:=h
theorem aUK {P:Prop} (h:P:=by rintro⟨_,h|h⟩<;>cases h):P:=h
theorem aUL {P:Prop} (h:P:=by simp[iV]):P:=h
theorem aUM {P:Prop} (h:P:=by exact fun _ _ ⟨_,_,s,_⟩=>⟨aG.a s,aG.a s,aK.a s,trivial⟩):P:=h
theorem aUN {P:Prop} (h:P:=by rw[hb];decide):P:=h
theorem aUO {P:Prop} (h:P:=by exact fun _ _ ⟨s,_⟩=>⟨hp.a s,hp.a s,hp.a s,trivial⟩):P:=h
theorem aUP {P:Prop} (h:P:=by exact fun _ _ ⟨s,_⟩=>⟨hr.a s,trivial⟩):P:=h
theorem aUQ {P:Prop} (h:P:=by exact hp):P:=h
theorem aUR {P:Prop} (h:P:=by rw[hj];simp[bI];omega):P:=h
theorem aUS {P:Prop} (h:P:=by show r.n≤r.n+1;omega):P:=h
theorem aUT {P:Prop} (h:P:=by exact fun _ _ ⟨s,_⟩=>⟨aJ.a s,aJ.a s,trivial⟩):P:=h
theorem aUU {P:Prop} (h:P:=by exact fun _ _ ⟨s,_⟩=>⟨aK.a s,trivial⟩):P:=h
theorem aUV {P:Prop} (h:P:=by have:=rF.2 z;omega):P:=h
theorem aUW {P:Prop} (h:P:=by have:=rF.2 z;simp;omega):P:=h
theorem aUX {P:Prop} (h:P:=by rintro (h|h|h|⟨_,h|⟨_,h|h⟩⟩|h|h|h|h|h)<;>cases h):P:=h
theorem aUY {P:Prop} (h:P:=by rw[bZ,iB,fL];omega):P:=h
theorem aUZ {P:Prop} (h:P:=by rw[cW,fL];omega):P:=h
theorem aU0 {P:Prop} (h:P:=by rw[cW,hk];exact aQM _ kL):P:=h
theorem aU1 {P:Prop} (h:P:=by rw[fL];congr 1;omega):P:=h
theorem aU2 {P:Prop} (h:P:=by rw[hl1,aQ3 (by omega),aSB]):P:=h
theorem aU3 {P:Prop} (h:P:=by rw[hl1,iB];omega):P:=h
theorem aU4 {P:Prop} (h:P:=by exact fun _ _ ⟨s,_⟩=>⟨aV.a s,aV.a s,trivial⟩):P:=h
theorem aU5 {P:Prop} (h:P:=by exact fun _ _ ⟨s,_⟩=>⟨hb.a s,trivial⟩):P:=h
theorem aU6 {P:Prop} (h:P:=by simp only[aQE,aQH,aQO,aQ5,aRY];omega):P:=h
theorem aU7 {P:Prop} (h:P:=by simpa using h):P:=h
theorem aU8 {P:Prop} (h:P:=by exact fun _ _ ⟨s,_⟩=>⟨hp.a s,hp.a s,trivial⟩):P:=h
theorem aU9 {P:Prop} (h:P:=by rintro (h|h|h|h|h)<;>cases h):P:=h
theorem aVA {P:Prop} (h:P:=by rintro (h|h|h|h|⟨_,h|h⟩|h)<;>cases h):P:=h
theorem aVB {P:Prop} (h:P:=by rintro (h|h|h|⟨_,h|h⟩)<;>cases h):P:=h
theorem aVC {P:Prop} (h:P:=by rw[aQ5,aQD];omega):P:=h
theorem aVD {P:Prop} (h:P:=by rw[e7];exact gR):P:=h
theorem aVE {P:Prop} (h:P:=by rw[e7];exact ho):P:=h
theorem aVF {P:Prop} (h:P:=by rw[hn];exact nofun):P:=h
theorem aVG {P:Prop} (h:P:=by show p.at_≤1000;have:=k.at_;have:=k.sl;omega):P:=h
theorem aVH {P:Prop} (h:P:=by simp only;rw[pC];exact rG):P:=h
theorem aVI {P:Prop} (h:P:=by simp only[aQO,aQF];omega):P:=h
theorem aVJ {P:Prop} (h:P:=by exact fun _ _ ⟨_,_,hb⟩=>⟨hb.at Z,hb.at Z,trivial⟩):P:=h
theorem aVK {P:Prop} (h:P:=by rw[aQE,aQD];omega):P:=h
theorem aVL {P:Prop} (h:P:=by exact fun _ _ ⟨_,_,hb⟩=>⟨hb.at Z,hb.at Z,hb.at Z,trivial⟩):P:=h
theorem aVM {P:Prop} (h:P:=by exact fun _ _ ⟨_,_,s,_⟩=>⟨aJ.a s,trivial⟩):P:=h
theorem aVN {P:Prop} (h:P:=by exact fun _ _ ⟨_,_,s,_⟩=>⟨hp.a s,hp.a s,hp.a s,trivial⟩):P:=h
theorem aVO {P:Prop} (h:P:=by exact fun _ _ ⟨_,s,_⟩=>⟨aJ.a s,aJ.a s,trivial⟩):P:=h
theorem aVP {P:Prop} (h:P:=by exact fun _ _ ⟨s,_⟩=>⟨(hp.step s (by rintro (h|h|h)<;>cases h)).at Z,trivial⟩):P:=h
theorem aVQ {P:Prop} (h:P:=by first|(simp;done)|(simp;omega)):P:=h
theorem aVR {P:Prop} (h:P:=by intro h;rw[h]at cW;simp at cW;omega):P:=h
theorem aVS {P:Prop} (h:P:=by rintro (h|h|h|⟨_,h|h⟩|h)<;>cases h):P:=h
theorem aVT {P:Prop} (h:P:=by rw[AN,←e7]at hR;exact hR):P:=h
theorem aVU {P:Prop} (h:P:=by rw[bZ,cW,hk];exact aQM _ (by omega)):P:=h
theorem aVV {P:Prop} (h:P:=by rw[cW,hk];exact aQM _ (by omega)):P:=h
theorem aVW {P:Prop} (h:P:=by rw[fL,show xs.length-(i+1)=0 by omega,aSK]):P:=h
theorem aVX {P:Prop} (h:P:=by rw[lB (by rw[bZ,IP,cW,hk];omega),bZ,cW,hk]):P:=h
theorem aVY {P:Prop} (h:P:=by rw[lB (by rw[bZ,cW,hl1];omega),bZ,cW,hk]):P:=h
theorem aVZ {P:Prop} (h:P:=by rw[lB (by rw[bZ,iB,fL];omega),bZ,iB,hk]):P:=h
theorem aV0 {P:Prop} (h:P:=by simp only[maxLen];omega):P:=h
theorem aV1 {P:Prop} (h:P:=by exact fun _ _ ⟨_,_,hb⟩=>⟨hb.at Z,trivial⟩):P:=h
theorem aV2 {P:Prop} (h:P:=by exact fun _ _ ⟨_,_,s,_⟩=>⟨aG.a s,trivial⟩):P:=h
theorem aV3 {P:Prop} (h:P:=by exact fun _ _ ⟨_,_,s,_⟩=>⟨aJ.a s,aJ.a s,trivial⟩):P:=h
theorem aV4 {P:Prop} (h:P:=by exact fun _ _ ⟨_,_,s,_⟩=>⟨aK.a s,trivial⟩):P:=h
theorem aV5 {P:Prop} (h:P:=by exact fun _ _ ⟨_,s,_⟩=>⟨aG.a s,trivial⟩):P:=h
theorem aV6 {P:Prop} (h:P:=by exact fun _ _ ⟨_,s,_⟩=>⟨aK.a s,trivial⟩):P:=h
theorem aV7 {P:Prop} (h:P:=by exact fun _ _ ⟨_,s,_⟩=>⟨gp.a s,trivial⟩):P:=h
theorem aV8 {P:Prop} (h:P:=by exact fun _ _ ⟨s,_⟩=>⟨aG.a s,trivial⟩):P:=h
theorem aV9 {P:Prop} (h:P:=by exact fun _ _ ⟨s,_⟩=>⟨cC.a s,aG.a s,aG.a s,trivial⟩):P:=h
theorem aWA {P:Prop} (h:P:=by exact fun _ _ ⟨s,_⟩=>⟨hp.a s,trivial⟩):P:=h
theorem aWB {P:Prop} (h:P:=by first|exact fun _ h=>h.elim|(rintro _ rfl;exact id)):P:=h
theorem aWC {P:Prop} (h:P:=by rintro (h|h)<;>first|exact g1 h|omega):P:=h
theorem aWD {P:Prop} (h:P:=by show ¬(_∧p.at_+1≤p.n+1+s∧s<p.n);omega):P:=h
theorem aWE {P:Prop} (h:P:=by unfold lA;rw[if_pos hw];exact⟨_,_,Z,Z,_,Z,hW⟩):P:=h
theorem aWF {P:Prop} (h:P:=by exact fun _ _ ⟨_,_,s,_⟩=>⟨aQ.a s,trivial⟩):P:=h
theorem aWG {P:Prop} (h:P:=by exact fun _ _ ⟨_,_,s,_⟩=>⟨bS.a s,cC.a s,hb.a s,trivial⟩):P:=h
theorem aWH {P:Prop} (h:P:=by exact fun _ _ ⟨_,s,_⟩=>⟨aG.a s,aG.a s,trivial⟩):P:=h
theorem aWI {P:Prop} (h:P:=by exact fun _ _ ⟨_,s,_⟩=>⟨aJ.a s,trivial⟩):P:=h
theorem aWJ {P:Prop} (h:P:=by exact fun _ _ ⟨_,s,_⟩=>⟨aQ.a s,trivial⟩):P:=h
theorem aWK {P:Prop} (h:P:=by exact fun _ _ ⟨_,s,_⟩=>⟨bS.a s,cC.a s,hb.a s,trivial⟩):P:=h
theorem aWL {P:Prop} (h:P:=by exact fun _ _ ⟨s,_⟩=>⟨aJ.a s,trivial⟩):P:=h
theorem aWM {P:Prop} (h:P:=by exact fun _ _ ⟨s,_⟩=>⟨aQ.a s,trivial⟩):P:=h
theorem aWN {P:Prop} (h:P:=by exact fun _ _ ⟨s,_⟩=>⟨bS.a s,cC.a s,hb.a s,trivial⟩):P:=h
inductive bB where
 | fz|ep (a b:Nat)|mp (a b:Nat)|vl (a b:Nat)|al (a b:Nat)|loc (i:Nat)|hall|acts|feed (s:Nat)|ring (s k:Nat)|run|calls|client (i:Nat)|mine (i:Nat)|proc (i j:Nat)|sweep (j:Nat)|nw (N i:Nat)|rrow (s k:Nat)|strs|obj (a b:Nat)
 deriving DecidableEq
structure TW where
 w:World
 own:Nat→bB
structure bQ (T:bB→Prop) (t t' : TW):Prop where
 os:t'.w.os=t.w.os
 tape:t'.w.tape=t.w.tape
 output:t'.w.output=t.w.output
 size:t.w.heap.size≤t'.w.heap.size
 keep:∀k,k<t.w.heap.size→¬T (t.own k)→t'.own k=t.own k∧t'.w.heap[k]?=t.w.heap[k]?
theorem bQ.refl (T:bB→Prop) (t:TW):bQ T t t:=⟨rfl,rfl,rfl,aP9 _,fun _ _ _=>⟨rfl,rfl⟩⟩
theorem bQ.trans {T:bB→Prop} {a b c:TW} (h:bQ T a b) (k:bQ T b c):bQ T a c:=
 ⟨k.os.trans h.os,k.tape.trans h.tape,k.output.trans h.output,aP8 h.size k.size,fun i hi hT=>by
  obtain⟨h1,h2⟩:=h.keep i hi hT;obtain⟨k1,k2⟩:=k.keep i (aSI hi h.size) (by rw[h1];exact hT)
  exact⟨k1.trans h1,k2.trans h2⟩⟩
theorem bQ.mono {T T' : bB→Prop} {a b:TW} (h:bQ T a b) (hT:∀g,T g→T' g):bQ T' a b:=
 ⟨h.os,h.tape,h.output,h.size,fun i hi hn=>h.keep i hi (fun hg=>hn (hT _ hg))⟩
def No:bB→Prop:=fun _=>False
theorem bQ.no {T:bB→Prop} {a b:TW} (h:bQ No a b):bQ T a b:=h.mono (fun _ hg=>hg.elim)
theorem TW.fresh (t:TW):∃N,∀k,k<t.w.heap.size→∀i,t.own k≠.nw N i:=by
 have key:∀n,∃N,∀k,k<n→∀M i,N≤M→t.own k≠.nw M i:=by
  intro n
  induction n with
  | zero=>exact⟨0,fun k hk=>absurd hk (aQW _)⟩
  | succ n ih=>
   obtain⟨N,hN⟩:=ih;by_cases h:∃M i,t.own n=.nw M i
   ·obtain⟨M0,i0,h0⟩:=h;refine⟨max N (M0+1),fun k hk M i hM=>?_⟩;rcases aSV.1 hk with hk|rfl
    ·exact hN k hk M i aTZ
    rw[h0];intro e;have:=(bB.nw.inj e).1;omega
   refine⟨N,fun k hk M i hM=>?_⟩;rcases aSV.1 hk with hk|rfl
   ·exact hN k hk M i hM
   exact fun e=>h ⟨M,i,e⟩
 obtain⟨N,hN⟩:=key t.w.heap.size;exact⟨N,fun k hk i=>hN k hk N i (aP9 _)⟩
def Bk (t:TW) (b:Nat) (cs:List Value) (ty:TypeId) (g:bB):Prop:=t.w.heap[b]?=some (.cells cs.toArray ty (0,0))∧t.own b=g
theorem Bk.lt {t:TW} {b:Nat} {cs:List Value} {ty:TypeId} {g:bB} (h:Bk t b cs ty g):b<t.w.heap.size:=(aTK.1 h.1).1
theorem Bk.step {T:bB→Prop} {t t' : TW} {b:Nat} {cs:List Value} {ty:TypeId} {g:bB} (h:Bk t b cs ty g) (s:bQ T t t') (hg:¬T g):Bk t' b cs ty g:=by
 obtain⟨h1,h2⟩:=s.keep b h.lt (by rw[h.2];exact hg);exact⟨h2.trans h.1,h1.trans h.2⟩
theorem Bk.n {T:bB→Prop} {t t' : TW} {b:Nat} {cs:List Value} {ty:TypeId} {g:bB} (h:Bk t b cs ty g) (s:bQ T t t') (hg:¬T g:=by first|exact id|nofun|(rintro (h|h)<;>cases h)|(rintro (h|h|h)<;>cases h)):Bk t' b cs ty g:=h.step s hg
theorem Bk.cell {t:TW} {b:Nat} {cs:List Value} {ty:TypeId} {g:bB} (h:Bk t b cs ty g) {o:Nat} {v:Value} (hv:cs[o]?=some v):t.w.cell? ⟨b,o,none⟩=some v:=by
 simp[World.cell?,h.1,hv]
theorem Bk.frozen {t:TW} {b:Nat} {cs:List Value} {ty:TypeId} {g:bB} (h:Bk t b cs ty g) (o:Nat):t.w.frozen? ⟨b,o,none⟩=false:=by
 simp[World.frozen?,h.1]
theorem Bk.ne {t:TW} {b b' : Nat} {cs cs' : List Value} {ty ty' : TypeId} {g g' : bB} (h:Bk t b cs ty g) (h' : Bk t b' cs' ty' g') (hg:g≠g'):b≠b' := by
 rintro rfl;exact hg (h.2.symm.trans h'.2)
structure FB (b:Nat) (t t' : TW):Prop where
 os:t'.w.os=t.w.os
 tape:t'.w.tape=t.w.tape
 output:t'.w.output=t.w.output
 size:t'.w.heap.size=t.w.heap.size
 keep:∀k,k≠b→t'.own k=t.own k∧t'.w.heap[k]?=t.w.heap[k]?
theorem FB.step {b:Nat} {t t' : TW} (h:FB b t t') {g:bB} (hg:t.own b=g):bQ (fun x=>x=g) t t' :=
 ⟨h.os,h.tape,h.output,Nat.le_of_eq h.size.symm,fun k _ hn=>h.keep k (fun e=>hn (by subst e;exact hg))⟩
theorem FB.from {b:Nat} {t t' : TW} (h:FB b t t') {T:bB→Prop} {t0:TW} (s:bQ T t0 t) (hb:t0.w.heap.size≤b∨T (t0.own b)):bQ T t0 t' :=
 ⟨h.os.trans s.os,h.tape.trans s.tape,h.output.trans s.output,aP8 s.size (Nat.le_of_eq h.size.symm),fun k hk hn=>by
  have Ce:k≠b:=by
   rintro rfl;rcases hb with hb|hb
   ·omega
   ·exact hn hb
  obtain⟨h1,h2⟩:=h.keep k Ce;obtain⟨k1,k2⟩:=s.keep k hk hn
  exact⟨h1.trans k1,h2.trans k2⟩⟩
abbrev eI:=List (Nat × Value)
def lk:eI→Nat→Option Value
 | [],_=>none
 | (i,v)::E,t=>bif Nat.beq i t then some v else lk E t
structure Sz where
 n:Nat
 d:Option Nat
def Sz.defers (s:Sz):List Deferred:=match s.d with
 | none=>[]
 | some D=>[{ target:=.collected D,args:=#[] }]
structure kD (n:Sz) (E:eI) (a:Act):Prop where
 sz:a.tmps.size=n.n
 df:a.defers=n.defers
 get:∀t v,lk E t=some v→a.tmps[t]?=some v
def ev (E:eI):Operand→Option Value
 | .tmp t=>lk E t
 | .const v=>some v
 | .global g=>some (Y g)
 | .func f=>some (.func (.func f) #[] #[])
theorem kD.ev {n:Sz} {E:eI} {a:Act} (h:kD n E a) {x:Operand} {v:Value} (hv:ev E x=some v):a.eval x=v:=by
 cases x with
 | tmp t=>
  have:=h.get t v hv;simp only[Act.eval,Array.getD_eq_getD_getElem?,this,Option.getD_some]
 | const u=>exact aQB hv
 | global g=>exact aQB hv
 | func f=>exact aQB hv
theorem kD.put {n:Sz} {E:eI} {a:Act} (h:kD n E a) {d:Nat} (hd:d<n.n) (v:Value):kD n ((d,v)::E) (a.put (some d) v):=by
 refine⟨by simp[Act.put,h.sz],h.df,fun t u ht=>?_⟩;simp only[Act.put];by_cases e:d=t
 ·subst e
  have:u=v:=by
   simp only[lk,Nat.beq_refl,cond_true]at ht;exact (aQB ht).symm
  subst this;rw[Array.getElem?_setIfInBounds_self_of_lt (by rw[h.sz];exact hd)]
 have h1:Nat.beq d t=false:=by
  cases hb:Nat.beq d t
  ·rfl
  exact absurd (aTH hb) e
 simp only[lk,h1,cond_false]at ht;rw[Array.getElem?_setIfInBounds_ne e];exact h.get t u ht
theorem kD.weak {n:Sz} {E E' : eI} {a:Act} (h:kD n E a) (hE:∀t v,lk E' t=some v→lk E t=some v):kD n E' a:=⟨h.sz,h.df,fun t v ht=>h.get t v (hE t v ht)⟩
def yB:eI→eI→Prop
 | [],_=>True
 | (i,v)::E', E=>lk E i=some v∧yB E' E
theorem yB.get:∀{E' E:eI},yB E' E→∀t v,lk E' t=some v→lk E t=some v
 | [],_,_,t,v,h=>by cases h
 | (i,u)::E', E,hs,t,v,h=>by
  cases hb:Nat.beq i t
  ·simp only[lk,hb,cond_false]at h;exact yB.get hs.2 t v h
  ·simp only[lk,hb,cond_true]at h;obtain rfl:=aTH hb;rw[←aQB h];exact hs.1
def gd (ops:Array Oper) (E:eI):Option (Nat × Bool)→Option Bool
 | none=>some true
 | some (j,want)=>match (ops[j]?).bind (·.dst) with
  | none=>some false
  | some d=>match lk E d with
   | some (.bool b)=>some (b == want)
   | some (.tuple _)=>some false
   | _=>none
theorem kD.wanted {n:Sz} {E:eI} {a:Act} (h:kD n E a) {ops:Array Oper} {o:Oper} {b:Bool} (hg:gd ops E o.guard=some b):Region.wanted o (yielded ops a.tmps)=b:=by
 unfold Region.wanted
 cases hq:o.guard with
 | none=>
  rw[hq]at hg;exact aQB hg
 | some p=>
  obtain⟨j,want⟩:=p;rw[hq]at hg;simp only[gd]at hg;simp only[yielded]
  cases hd:(ops[j]?).bind (·.dst) with
  | none=>
   simp only[hd]at hg;simp only[Option.bind_none];rw[←aQB hg];rfl
  | some d=>
   simp only[hd]at hg;simp only[Option.bind_some]
   cases hl:lk E d with
   | none=>simp only[hl]at hg;cases hg
   | some u=>
    simp only[hl]at hg;rw[h.get d u hl]
    cases u with
    | bool b' =>
     have Bz : some (b' == want)=some b:=hg;rw[←aQB Bz];cases b' <;> cases want<;>rfl
    | tuple vs=>
     have Bz : some false=some b:=hg;rw[←aQB Bz];rfl
    | _=>cases hg
noncomputable abbrev P:Program:=Tryz.prog
def Fr (n:Sz) (o:Oper) (E:eI) (v:Value):Prop:=∀a w,kD n E a→(execOp a.eval o).run P w=.ok (.value v) w
def Rd (n:Sz) (o:Oper) (E:eI) (w:World) (v:Value):Prop:=∀a,kD n E a→(execOp a.eval o).run P w=.ok (.value v) w
theorem Fr.rd {n:Sz} {o:Oper} {E:eI} {v:Value} (h:Fr n o E v) (w:World):Rd n o E w v:=fun a ha=>h a w ha
structure i7 where
 n:Sz
 t0:TW
 T:bB→Prop
structure Ef (c:i7) (o:Oper) (E:eI) (t:TW) (Φ:Value→TW→Prop):Prop where
 out:bQ c.T c.t0 t→∀a,kD c.n E a→∀(K:Act→World→Prop) (Q:Exit→Act→World→Prop),(∀v t', bQ c.T c.t0 t' → Φ v t' → K (a.put o.dst v) t'.w)→o.wp P a t.w K Q
def WL (c:i7) (ops:Array Oper) (Q:Exit→Act→World→Prop) (l:List Oper) (E:eI) (t:TW):Prop:=
 bQ c.T c.t0 t→∀a,kD c.n E a→wpList P ops Q l a t.w
section
variable {c:i7} {ops:Array Oper} {Q:Exit→Act→World→Prop} {rest:List Oper} {E:eI} {t:TW}
variable {d:Nat} {op:Op} {ty:TypeId} {pos:String} {af:Array Edge} {g:Option (Nat × Bool)} {v:Value}
theorem WL.r (h:Rd c.n ⟨some d,op,ty,pos,af,g⟩ E t.w v) (k:WL c ops Q rest ((d,v)::E) t) (hg:gd ops E g=some true:=by rfl) (hd:aQ2 d c.n.n=true:=by rfl) :
  WL c ops Q (⟨some d,op,ty,pos,af,g⟩::rest) E t:=fun hs a ha=>by
 refine wpList_step fun K hK=>?_;rw[if_pos (ha.wanted (o:=⟨some d,op,ty,pos,af,g⟩) hg)];unfold Oper.wp;rw[h a ha];exact hK _ _ (k hs _ (ha.put (aRU hd) v))
theorem aA (h:Fr c.n ⟨some d,op,ty,pos,af,g⟩ E v) (k:WL c ops Q rest ((d,v)::E) t) (hg:gd ops E g=some true:=by rfl) (hd:aQ2 d c.n.n=true:=by rfl) :
  WL c ops Q (⟨some d,op,ty,pos,af,g⟩::rest) E t:=WL.r (h.rd t.w) k hg hd
theorem WL.s (k:WL c ops Q rest ((d,undef)::E) t) (hg:gd ops E g=some false:=by rfl) (hd:aQ2 d c.n.n=true:=by rfl) :
  WL c ops Q (⟨some d,op,ty,pos,af,g⟩::rest) E t:=fun hs a ha=>by
 refine wpList_step fun K hK=>?_;rw[if_neg (by rw[ha.wanted (o:=⟨some d,op,ty,pos,af,g⟩) hg];exact aRE)];exact hK _ _ (k hs _ (ha.put (aRU hd) _))
theorem aI {Φ:Value→TW→Prop} (h:Ef c ⟨some d,op,ty,pos,af,g⟩ E t Φ) (k:∀v t', Φ v t' → WL c ops Q rest ((d,v)::E) t')
  (hg:gd ops E g=some true:=by rfl) (hd:aQ2 d c.n.n=true:=by rfl):WL c ops Q (⟨some d,op,ty,pos,af,g⟩::rest) E t:=fun hs a ha=>by
 refine wpList_step fun K hK=>?_;rw[if_pos (ha.wanted (o:=⟨some d,op,ty,pos,af,g⟩) hg)];exact h.out hs a ha K Q fun v t' fM hp=>hK _ _ (k v t' hp fM _ (ha.put (aRU hd) v))
theorem WL.e0 {Φ:Value→TW→Prop} (h:Ef c ⟨none,op,ty,pos,af,g⟩ E t Φ) (k:∀v t', Φ v t' → WL c ops Q rest E t')
  (hg:gd ops E g=some true:=by rfl):WL c ops Q (⟨none,op,ty,pos,af,g⟩::rest) E t:=fun hs a ha=>by
 refine wpList_step fun K hK=>?_;rw[if_pos (ha.wanted (o:=⟨none,op,ty,pos,af,g⟩) hg)];exact h.out hs a ha K Q fun v t' fM hp=>hK _ _ (k v t' hp fM _ ha)
theorem WL.s0 (k:WL c ops Q rest E t) (hg:gd ops E g=some false:=by rfl):WL c ops Q (⟨none,op,ty,pos,af,g⟩::rest) E t:=fun hs a ha=>by
 refine wpList_step fun K hK=>?_;rw[if_neg (by rw[ha.wanted (o:=⟨none,op,ty,pos,af,g⟩) hg];exact aRE)];exact hK _ _ (k hs _ ha)
def WQ (c:i7) (Q:Exit→Act→World→Prop) (e:Exit) (E:eI) (t:TW):Prop:=bQ c.T c.t0 t→∀a,kD c.n E a→Q e a t.w
def WC (c:i7) (x:Code) (Q:Exit→Act→World→Prop) (E:eI) (t:TW):Prop:=bQ c.T c.t0 t→∀a,kD c.n E a→x.wp P Q a t.w
variable {x y:Code} {Q' : Exit→Act→World→Prop} {K:Act→World→Prop} {id:Nat}
theorem WL.nil (h:WQ c Q .normal E t):WL c ops Q [] E t:=fun hs a ha=>wpList_nil (h hs a ha)
theorem WQ.n (h:WC c y Q' E t):WQ c (Exit.then (y.wp P Q') Q) .normal E t:=h
theorem cN (h:WQ c Q (.exit id) E t):WQ c (Exit.then K Q) (.exit id) E t:=h
theorem WQ.tr (h:WQ c Q .ret E t):WQ c (Exit.then K Q) .ret E t:=h
theorem cE (h:WQ c Q .normal E t):WQ c (Exit.inBlock id Q) .normal E t:=h
theorem f4 (h:WQ c Q .ret E t):WQ c (Exit.inBlock id Q) .ret E t:=h
theorem fK (h:WQ c Q .normal E t):WQ c (Exit.inBlock id Q) (.exit id) E t:=fun hs a ha=>by
 simp only[Exit.inBlock,↓reduceIte];exact h hs a ha
theorem WQ.by_ {id' : Nat} (h:WQ c Q (.exit id') E t) (bR:Nat.beq id' id=false:=by rfl):WQ c (Exit.inBlock id Q) (.exit id') E t:=fun hs a ha=>by
 have:id' ≠ id:=fun e=>by
  subst e;rw[Nat.beq_refl]at bR;cases bR
 simp only[Exit.inBlock,if_neg this];exact h hs a ha
theorem WC.seq (h:WC c x (Exit.then (y.wp P Q) Q) E t):WC c (.seq x y) Q E t:=fun hs a ha=>wp_seq (h hs a ha)
theorem WC.rg {l:List Oper} (h:WL c l.toArray Q l E t):WC c (.region id l.toArray false) Q E t:=fun hs a ha=>wp_region_lit (h hs a ha)
theorem aD {l:List Oper} (h:WL c l.toArray (Exit.then (y.wp P Q) Q) l E t):WC c (.seq (.region id l.toArray false) y) Q E t:=.seq (.rg h)
theorem aB (h:WC c y Q' E t):WL c ops (Exit.then (y.wp P Q') Q) [] E t:=.nil (.n h)
theorem WC.cond {o:Operand} {b:Bool} (hc:ev E o=some (.bool b)) (ht:b=true→WC c x Q E t) (hf:b=false→WC c y Q E t):WC c (.cond o x y) Q E t:=fun hs a ha=>
 wp_cond_split (ha.ev hc) (fun h=>ht h hs a ha) (fun h=>hf h hs a ha)
theorem jN {o:Operand} (h:WC c x Q E t) (hc:ev E o=some (.bool true):=by rfl):WC c (.cond o x y) Q E t:=fun hs a ha=>wp_cond_true (ha.ev hc) (h hs a ha)
theorem nH {o:Operand} (h:WC c y Q E t) (hc:ev E o=some (.bool false):=by rfl):WC c (.cond o x y) Q E t:=fun hs a ha=>wp_cond_false (ha.ev hc) (h hs a ha)
theorem WC.block (h:WC c x (Exit.inBlock id Q) E t):WC c (.block id x) Q E t:=fun hs a ha=>wp_block (h hs a ha)
theorem WC.exit (h:WQ c Q (.exit id) E t):WC c (.exit id) Q E t:=fun hs a ha=>wp_exit (h hs a ha)
theorem WC.ret (h:WQ c Q .ret E t):WC c .ret Q E t:=fun hs a ha=>wp_ret (h hs a ha)
theorem WC.skip (h:WQ c Q .normal E t):WC c .skip Q E t:=fun hs a ha=>wp_skip (h hs a ha)
theorem Vv (E' : eI) (hE:yB E' E) (h:WC c x Q E' t):WC c x Q E t:=fun hs a ha=>h hs a (ha.weak hE.get)
theorem aP7 {e:Exit} (E' : eI) (hE:yB E' E) (h:WQ c Q e E' t):WQ c Q e E t:=fun hs a ha=>h hs a (ha.weak hE.get)
theorem aP6 {l:List Oper} (E' : eI) (hE:yB E' E) (h:WL c ops Q l E' t):WL c ops Q l E t:=fun hs a ha=>h hs a (ha.weak hE.get)
theorem eP {l:List Oper} (s:Nat) {b:Bool} (hl:lk E s=some (.bool b)) (ht:b=true→WL c ops Q l ((s,.bool true)::E) t) (hf:b=false→WL c ops Q l ((s,.bool false)::E) t):WL c ops Q l E t:=by
 have key:∀v,lk E s=some v→∀k u,lk ((s,v)::E) k=some u→lk E k=some u:=fun v hv k u hk=>by
  cases hb:Nat.beq s k
  ·simp only[lk,hb,cond_false]at hk;exact hk
  simp only[lk,hb,cond_true]at hk;obtain rfl:=aTH hb;rw[hv,hk]
 cases b
 ·exact fun hs a ha=>hf Z hs a (ha.weak (key _ hl))
 exact fun hs a ha=>ht Z hs a (ha.weak (key _ hl))
theorem WL.re {l:List Oper} (s:Nat) {v v' : Value} (hl:lk E s=some v) (e:v=v') (h:WL c ops Q l ((s,v')::E) t):WL c ops Q l E t:=fun hs a ha=>by
 subst e;refine h hs a (ha.weak fun k u hk=>?_);cases hb:Nat.beq s k
 ·simp only[lk,hb,cond_false]at hk;exact hk
 ·simp only[lk,hb,cond_true]at hk;obtain rfl:=aTH hb;rw[hl,hk]
def Rnd {σ:Type} (c:i7) (I:σ→TW→Prop) (F:σ→eI) (m:σ→Nat) (k:Nat):Act→World→Prop:=fun a w=>∃s t', m s<k∧t'.w=w∧bQ c.T c.t0 t' ∧ I s t' ∧ kD c.n (F s) a
theorem WC.loop {σ:Type} (I:σ→TW→Prop) (F:σ→eI) (m:σ→Nat) (s0:σ) (hE:yB (F s0) E) (h0:I s0 t)
  (round:∀s t', I s t' → WC c x (Exit.then (Rnd c I F m (m s)) Q) (F s) t'):WC c (.loop x) Q E t:=fun hs a ha=>by
 refine wp_loop_ghost (fun k a w=>∃s t', m s=k∧t'.w=w∧bQ c.T c.t0 t' ∧ I s t' ∧ kD c.n (F s) a) (m s0) ⟨s0,t,Z,Z,hs,h0,ha.weak hE.get⟩ ?_;rintro k a' w' ⟨s,t', rfl,rfl,fM, hI,hH⟩;refine wp_mono (round s t' hI fM a' hH) fun e _ _ hq=>?_
 cases e with
 | normal=>
  obtain⟨s2,t2,aW,hw,h1,h2,h3⟩:=hq;exact⟨m s2,aW,s2,t2,Z,hw,h1,h2,h3⟩
 | exit id=>exact hq
 | goto l=>exact hq
 | ret=>exact hq
 | panic ch=>exact hq
 | outgrown=>exact hq
theorem dX {σ:Type} {I:σ→TW→Prop} {F:σ→eI} {m:σ→Nat} {k:Nat} (s:σ) (hE:yB (F s) E) (hI:I s t) (hm:m s<k):WQ c (Exit.then (Rnd c I F m k) Q) .normal E t:=fun hs a ha=>
 ⟨s,t,hm,rfl,hs,hI,ha.weak hE.get⟩
end
def E7 (T:bB→Prop) (t:TW) (Φ:Value→TW→Prop):Ending→World→Prop:=fun e w' => ∃v own', e=.returned v∧bQ T t ⟨w', own'⟩∧Φ v ⟨w', own'⟩
def aL (f:FuncId) (args:List Value) (t:TW) (T:bB→Prop) (Φ:Value→TW→Prop):Prop:=Calls P f args.toArray t.w (E7 T t Φ)
theorem aL.mono {f:FuncId} {args:List Value} {t:TW} {T T' : bB→Prop} {Φ Φ' : Value→TW→Prop} (h:aL f args t T Φ) (hT:∀g,T g→T' g) (hΦ:∀v t', bQ T t t' → Φ v t' → Φ' v t'):aL f args t T' Φ' := by
 refine Calls.mono h fun e w' hh=>?_;obtain⟨v,own', he,hs,hp⟩:=hh;exact⟨v,own', he,hs.mono hT,hΦ _ _ hs hp⟩
theorem aL.post {f:FuncId} {args:List Value} {t:TW} {T:bB→Prop} {Φ Φ' : Value→TW→Prop} (h:aL f args t T Φ) (hΦ:∀v t', bQ T t t' → Φ v t' → Φ' v t'):aL f args t T Φ' := h.mono aT3 hΦ
def LW:List Value→Nat→eI
 | [],_=>[]
 | v::vs,i=>(i,v)::LW vs (i+1)
theorem Dv:∀(vs:List Value) (i t:Nat) (v:Value),lk (LW vs i) t=some v→i≤t∧vs[t-i]?=some v
 | [],_,_,_,h=>by cases h
 | u::vs,i,t,v,h=>by
  simp only[LW,lk]at h;cases hb:Nat.beq i t
  ·simp only[hb,cond_false]at h;obtain⟨h1,h2⟩:=Dv vs (i+1) t v h;refine⟨by omega,?_⟩;rw[show t-i=(t-(i+1))+1 by omega];simpa using h2
  ·simp only[hb,cond_true]at h;obtain rfl:=aTH hb;exact⟨aP9 _,by simpa using h⟩
inductive RV (E:eI) (w:World):List ResultVar→List Value→Prop where
 | nil:RV E w [] []
 | tmp {s:Nat} {v:Value} {rs:List ResultVar} {vs:List Value} (h:lk E s=some v) (r:RV E w rs vs):RV E w (.tmp s::rs) (v::vs)
 | cell {s:Nat} {ty:TypeId} {ad:Addr} {v:Value} {rs:List ResultVar} {vs:List Value} (h:lk E s=some (.pointer (some ad))) (hl:(loadVar ty ad).run P w=.ok v w) (r:RV E w rs vs):RV E w (.cell s ty::rs) (v::vs)
def dB:List Value→Value
 | [v]=>v
 | vs=>.tuple vs.toArray
def PP (a:Act):ResultVar→Sem Value
 | .tmp t=>pure (a.tmps.getD t undef)
 | .cell s t=>do loadVar t (←asAddr (a.tmps.getD s undef))
theorem aMG (a:Act) (s:Tmp) (ty:TypeId) (w:World) {ad:Addr} (h:a.tmps.getD s undef=.pointer (some ad)):(PP a (.cell s ty)).run P w=(loadVar ty ad).run P w:=by
 simp only[PP,h,asAddr,pure_bind]
theorem RV.run {n:Sz} {E:eI} {w:World} {a:Act} (ha:kD n E a):∀{rs:List ResultVar} {vs:List Value},RV E w rs vs→(rs.mapM (PP a)).run P w=.ok vs w:=by
 intro rs vs h
 induction h with
 | nil=>simp
 | tmp hl _ ih=>
  have h1:=ha.ev (x:=.tmp _) hl;simp only[Act.eval]at h1;rw[List.mapM_cons,Sem.run_bind];simp only[PP,h1,Sem.run_pure,Result.andThen_ok,Sem.run_bind];rw[ih];rfl
 | cell hl hv _ ih=>
  have h1:=ha.ev (x:=.tmp _) hl;simp only[Act.eval]at h1;rw[List.mapM_cons,Sem.run_bind,aMG a _ _ w h1,hv];simp only[Result.andThen_ok,Sem.run_bind];rw[ih];rfl
theorem RV.results {n:Sz} {E:eI} {w:World} {a:Act} (ha:kD n E a) {fn:Func} {rs:List ResultVar} {vs:List Value} (hf:fn.results=rs.toArray) (h:RV E w rs vs):(Go.results fn a.tmps).run P w=.ok (dB vs) w:=by
 have h1:=RV.run ha h
 have h2:Go.results fn a.tmps=(do let vs ←rs.toArray.mapM (PP a);pure (if h:vs.size=1 then vs[0] else .tuple vs)):=by
  unfold Go.results;rw[hf];rfl
 rw[h2,List.mapM_toArray];simp only[Sem.run_bind,Sem.run_map,h1,Sem.run_pure,Result.andThen_ok];congr 1
 match vs with
 | []=>rfl
 | [v]=>rfl
 | u::v::r=>simp[dB]
theorem aL.enter {f:FuncId} {fn:Func} {x:Code} {args:List Value} {t:TW} {T:bB→Prop} {Φ:Value→TW→Prop} {n:Nat} (hf:P.funcs[f]?=some fn) (hb:fn.body=some x) (hn:fn.ntmps=n) (hl:args.length≤n)
  (h:WC ⟨⟨n,none⟩,t,T⟩ x (bodyPost P fn (E7 T t Φ)) (LW args 0) t):aL f args t T Φ:=by
 refine calls_of_wp hf hb (h (bQ.refl _ _) _ ⟨?_,Z,fun s v hv=>?_⟩)
 ·simp[hn];omega
 obtain⟨_,h2⟩:=Dv args 0 s v hv;simp only[Nat.sub_zero]at h2;have aW:=(aQG.1 h2).1;rw[Array.getElem?_append_left (by simpa using aW)];simpa using h2
section
variable {n:Nat} {t0 t:TW} {T:bB→Prop} {E:eI} {fn:Func} {Φ:Value→TW→Prop} {rs:List ResultVar} {vs:List Value}
theorem WQ.ret (hf:fn.results=rs.toArray) (hv:RV E t.w rs vs) (hΦ:Φ (dB vs) t):WQ ⟨⟨n,none⟩,t0,T⟩ (bodyPost P fn (E7 T t0 Φ)) .ret E t:=fun hs _ ha=>
 ⟨ha.df,_,RV.results ha hf hv,_,t.own,rfl,hs,hΦ⟩
theorem WQ.end_ (hf:fn.results=rs.toArray) (hv:RV E t.w rs vs) (hΦ:Φ (dB vs) t):WQ ⟨⟨n,none⟩,t0,T⟩ (bodyPost P fn (E7 T t0 Φ)) .normal E t:=fun hs _ ha=>
 ⟨ha.df,_,RV.results ha hf hv,_,t.own,rfl,hs,hΦ⟩
end
theorem bA {p:Prop} [Decidable p] (h:decide p=true):p:=of_decide_eq_true h
theorem aY {p:Prop} [Decidable p] (h:decide p=false):¬p:=of_decide_eq_false h
theorem Q2 {a0 a1:Prop} (h0:a0) (h1:a1):a0∧a1:=⟨h0,h1⟩
theorem Q3 {a0 a1 a2:Prop} (h0:a0) (h1:a1) (h2:a2):a0∧a1∧a2:=⟨h0,h1,h2⟩
theorem Q4 {a0 a1 a2 a3:Prop} (h0:a0) (h1:a1) (h2:a2) (h3:a3):a0∧a1∧a2∧a3:=⟨h0,h1,h2,h3⟩
theorem Q5 {a0 a1 a2 a3 a4:Prop} (h0:a0) (h1:a1) (h2:a2) (h3:a3) (h4:a4):a0∧a1∧a2∧a3∧a4:=⟨h0,h1,h2,h3,h4⟩
theorem Q6 {a0 a1 a2 a3 a4 a5:Prop} (h0:a0) (h1:a1) (h2:a2) (h3:a3) (h4:a4) (h5:a5):a0∧a1∧a2∧a3∧a4∧a5:=⟨h0,h1,h2,h3,h4,h5⟩
theorem Q7 {a0 a1 a2 a3 a4 a5 a6:Prop} (h0:a0) (h1:a1) (h2:a2) (h3:a3) (h4:a4) (h5:a5) (h6:a6):a0∧a1∧a2∧a3∧a4∧a5∧a6:=⟨h0,h1,h2,h3,h4,h5,h6⟩
theorem Q8 {a0 a1 a2 a3 a4 a5 a6 a7:Prop} (h0:a0) (h1:a1) (h2:a2) (h3:a3) (h4:a4) (h5:a5) (h6:a6) (h7:a7):a0∧a1∧a2∧a3∧a4∧a5∧a6∧a7:=⟨h0,h1,h2,h3,h4,h5,h6,h7⟩
theorem Q9 {a0 a1 a2 a3 a4 a5 a6 a7 a8:Prop} (h0:a0) (h1:a1) (h2:a2) (h3:a3) (h4:a4) (h5:a5) (h6:a6) (h7:a7) (h8:a8):a0∧a1∧a2∧a3∧a4∧a5∧a6∧a7∧a8:=⟨h0,h1,h2,h3,h4,h5,h6,h7,h8⟩
theorem yA {a0 a1 a2 a3 a4 a5 a6 a7 a8 a9:Prop} (h0:a0) (h1:a1) (h2:a2) (h3:a3) (h4:a4) (h5:a5) (h6:a6) (h7:a7) (h8:a8) (h9:a9):a0∧a1∧a2∧a3∧a4∧a5∧a6∧a7∧a8∧a9:=⟨h0,h1,h2,h3,h4,h5,h6,h7,h8,h9⟩
theorem QO {a0 a1 a2 a3 a4 a5 a6 a7 a8 a9 a10:Prop} (h0:a0) (h1:a1) (h2:a2) (h3:a3) (h4:a4) (h5:a5) (h6:a6) (h7:a7) (h8:a8) (h9:a9) (o6:a10):a0∧a1∧a2∧a3∧a4∧a5∧a6∧a7∧a8∧a9∧a10:=⟨h0,h1,h2,h3,h4,h5,h6,h7,h8,h9,o6⟩
theorem vW {a0 a1 a2 a3 a4 a5 a6 a7 a8 a9 a10 a11:Prop} (h0:a0) (h1:a1) (h2:a2) (h3:a3) (h4:a4) (h5:a5) (h6:a6) (h7:a7) (h8:a8) (h9:a9) (o6:a10) (oE:a11):a0∧a1∧a2∧a3∧a4∧a5∧a6∧a7∧a8∧a9∧a10∧a11:=⟨h0,h1,h2,h3,h4,h5,h6,h7,h8,h9,o6,oE⟩
theorem bG {f:FuncId} {fn:Func} {x:Code} {args:List Value} {t:TW} {T:bB→Prop} {Φ:Value→TW→Prop} {n:Nat} (hf:P.funcs[f]?=some fn) (hb:fn.body=some x) (hn:fn.ntmps=n)
  (h:WC ⟨⟨n,none⟩,t,T⟩ x (bodyPost P fn (E7 T t Φ)) (LW args 0) t) (hl:args.length≤n:=by simp):aL f args t T Φ:=aL.enter hf hb hn hl h
def M4 (k:IntKind) (i j:Int):Int:=k.wrap ((BitVec.ofInt k.bits i &&& BitVec.ofInt k.bits j).toNat)
def Q1 (k:IntKind) (i j:Int):Int:=k.wrap ((BitVec.ofInt k.bits i ||| BitVec.ofInt k.bits j).toNat)
def J8 (k:IntKind) (i j:Int):Int:=k.wrap ((BitVec.ofInt k.bits i ^^^ BitVec.ofInt k.bits j).toNat)
def BS (k:IntKind) (i j:Int):Int:=k.wrap ((BitVec.ofInt k.bits i &&& ~~~(BitVec.ofInt k.bits j)).toNat)
def iZ (x y:ByteArray):Bool:=Op.bytesLess x.toList y.toList
def pX (l who:Int):Int × Bool:=if who<0∨l≠0 then (l,false) else (who+1,true)
def pW (l who:Int):Int × Bool:=if l=0∨l-1≠who then (l,false) else (0,true)
def d8 (a b:Int):Int:=if 18446744073709551615<a+b then 18446744073709551615 else a+b
def DW (a b:Int):Int:=if a<b then -1 else if b<a then 1 else 0
def pF (s:ByteArray):Bool:=decide (s.size≠0)&&decide (s.size≤16)
def gU (id status prio:Int):Bool:=decide (0≤id∧id≤255∧1≤status∧status≤9∧0≤prio∧prio≤9)
def RD (v:Int):Bool:=decide (v%2=1)
def BU (v bound:Int):Int:=if ¬bound≤v∧RD v=false then v+1 else v
def DS (v:Int):Int:=if RD v=true then v+1 else v
def gX (b:Int):Int:=b-b%2
def EC (h c:Int):Int:=IntKind.u64.wrap (J8 .u64 h (IntKind.u64.wrap c)*1099511628211)
def xE (l:List UInt8):Int:=l.foldl (fun h c=>EC h c.toNat) 14695981039346656037
def eZ (u:ByteArray) (n:Int):Int:=if n<1 then 0 else (xE u.data.toList).tmod n
structure mZ where
 now:Int
 seq:Int
 closed:Bool
structure cY where
 stripes:Int
 sessions:Int
 queue:Int
 watches:Int
 retries:Int
 epochs:Int
 start:Int
structure q7 where
 status:Int
 prio:Int
 live:Int
 deriving DecidableEq
structure bT where
 id:Int
 status:Int
 prio:Int
 til:Int
structure cI where
 user:ByteArray
 old:q7
 new:q7
 seq:Int
structure gB where
 user:ByteArray
 old:q7
 new:q7
structure dE where
 kind:Int
 user:ByteArray
 id:Int
 status:Int
 prio:Int
 ttl:Int
 users:List ByteArray
structure sA where
 err:Int
 values:List q7
 events:List cI
 lost:Bool
structure dS where
 sessions:List bT
 told:q7
structure dV where
 keys:List ByteArray
 vals:List dS
structure z5 where
 kind:Int
 who:Int
 by_:Int
structure iI where
 cfg:cY
 clients:List (List dE)
 picks:List z5
def qB (c:cY):Bool:=decide (1≤c.stripes∧c.stripes≤8)&&decide (1≤c.sessions∧c.sessions≤8)&&decide (1≤c.queue∧c.queue≤16)&&decide (1≤c.watches∧c.watches≤8)&&decide (0≤c.retries∧c.retries≤4)
def dH (x:dE):Bool:=
 if x.kind=1 then !pF x.user||!gU x.id x.status x.prio
 else if x.kind=2∨x.kind=3 then !pF x.user||!decide (0≤x.id∧x.id≤255)
 else if x.kind=4∨x.kind=6∨x.kind=7 then !pF x.user
 else if x.kind=5 then (x.users.any fun u=>!pF u)||!decide (1≤(x.users.length:Int)∧(x.users.length:Int)≤8)
 else !decide (x.kind=8∨x.kind=9)
def g8 (s:iI):Int:=
 if qB s.cfg=false∨s.clients.length=0 then 1
 else if 8<s.clients.length∨20000<s.picks.length then 7
 else if (s.clients.any fun l=>decide (40<l.length))=true then 7 else 0
def r5 (users:List ByteArray) (n:Int):List Int:=((List.range 8).filter fun (s:Nat)=>users.any fun u=>decide (eZ u n=(s:Int))).map fun (s:Nat)=>(s:Int)
def zS (x:dE):List ByteArray:=if x.kind=4 then [x.user] else if x.kind=5 then x.users else []
def Sc (ty:TypeId):Prop:=∃d,P.underlying ty=some d∧d.isRow=false
def bY (ty:TypeId) (k:Nat):Prop:=(P.info? ty).map (·.size)=some k
def Ag (ty:TypeId) (k:Nat):Prop:=(∃d,P.underlying ty=some d∧d.isRow=true)∧bY ty k
structure Zr (ty:TypeId) (z:Value) (cs:List Value):Prop where
 run:∀w,(zeroValue ty).run P w=.ok z w
 cells:z.cells=cs.toArray
def FA (s f off:Nat):Prop:=∃fields fld k,P.underlying s=some (.struct fields)∧fields[f]?=some fld∧fld.offset=off∧bY fld.type (k+1)
def iQ (t e k:Nat):Prop:=P.underlying t=some (.slice e)∧bY e k
def MO (t len e k:Nat):Prop:=P.underlying t=some (.array len e)∧bY e k
def aO (f:FuncId):Prop:=∀args w,(callFunc f args).run P w=.ok (.enter f args) w
theorem aO.mk {f : FuncId} {fn : Func} (h : P.funcs[f]? = some fn) (hn : (fn.name == "runtime.NumGoroutine") = false) (hb : fn.body.isNone = false) : aO f := fun args w => by
 have h1 : ¬ fn.name = "runtime.NumGoroutine" := by simpa using hn
 have h2:¬fn.body=none:=by
  intro e;rw[e]at hb;cases hb
 simp[callFunc,h,h1,h2]
theorem iE {ty:TypeId} {d:TypeDesc} (h:P.underlying ty=some d) (w:World):(underlying ty).run P w=.ok d w:=by simp[underlying,h]
theorem bY.run {ty:TypeId} {k:Nat} (h:bY ty k) (w:World):(sizeOf ty).run P w=.ok k w:=by
 unfold bY at h
 cases hq:P.info? ty with
 | none=>simp[hq]at h
 | some i=>
  have:i.size=k:=by simpa[hq]using h
  simp[sizeOf,typeInfo,hq,this]
theorem iG {b c:Bool} (h:(!b)=c):b=!c:=by cases b<;>cases c<;>first|rfl|cases h
theorem sB (b o k:Nat):(⟨b,o,none⟩:Addr).add k=⟨b,o+k,none⟩:=by unfold Addr.add;split<;>simp_all
section
variable {n:Sz} {E:eI} {d:Option Nat} {ty:TypeId} {pos:String} {af:Array Edge} {g:Option (Nat × Bool)} {x y z:Operand} {v:Value}
theorem x6 (h:ev E x=some v):Fr n ⟨d,.move x,ty,pos,af,g⟩ E v:=fun a w ha=>by simp[execOp,ha.ev h]
theorem hZ (h:ev E x=some v):Fr n ⟨d,.assign x,ty,pos,af,g⟩ E v:=fun a w ha=>by simp[execOp,ha.ev h]
theorem cQ (hc:ev E x=some (.bool true)) (h:ev E y=some v):Fr n ⟨d,.pick x y z,ty,pos,af,g⟩ E v:=fun a w ha=>by simp[execOp,ha.ev hc,ha.ev h,asBool]
theorem cG (hc:ev E x=some (.bool false)) (h:ev E z=some v):Fr n ⟨d,.pick x y z,ty,pos,af,g⟩ E v:=fun a w ha=>by simp[execOp,ha.ev hc,ha.ev h,asBool]
theorem aT {ad:Addr} (h:ev E x=some (.pointer (some ad))):Fr n ⟨d,.nilCheck x,ty,pos,af,g⟩ E (.pointer (some ad)):=fun a w ha=>by simp[execOp,ha.ev h]
theorem Ia {t:TypeId} {u:Value} (h:ev E x=some (.iface t u)):Fr n ⟨d,.nilCheck x,ty,pos,af,g⟩ E (.iface t u):=fun a w ha=>by simp[execOp,ha.ev h]
theorem eC {s f b o off o' : Nat} (h:ev E x=some (.pointer (some ⟨b,o,none⟩))) (hf:FA s f off) (ho:o+off=o' := by rfl):Fr n ⟨d,.fieldAddr s x f,ty,pos,af,g⟩ E (.pointer (some ⟨b,o', none⟩)):=fun a w ha=>by
 obtain⟨fields,fld,k,h1,h2,h3,h4⟩:=hf;subst ho;simp[execOp,ha.ev h,Instr.fieldAt,iE h1,h2,Instr.sureAddr,fieldPlace,h4.run,h3,sB]
theorem bV {t e k b o o' len cap:Nat} {q:IntKind} {i:Int} (h:ev E x=some (.slice (some ⟨b,o,none⟩) len cap)) (hi:ev E y=some (.int q i)) (ht:iQ t e k) (h0:0≤i) (h1:i<len) (ho:o+i.toNat*k=o' := by rfl) :
  Fr n ⟨d,.indexAddr t x y,ty,pos,af,g⟩ E (.pointer (some ⟨b,o', none⟩)):=fun a w ha=>by
 subst ho;simp[execOp,ha.ev h,ha.ev hi,Instr.indexAt,asIntOf,iE ht.1,h0,h1,ht.2.run,sB]
theorem q5 {t e k b o o' len:Nat} {q:IntKind} {i:Int} (h:ev E x=some (.pointer (some ⟨b,o,none⟩))) (hi:ev E y=some (.int q i)) (ht:MO t len e k) (h0:0≤i) (h1:i<len) (ho:o+i.toNat*k=o' := by rfl) :
  Fr n ⟨d,.indexAddr t x y,ty,pos,af,g⟩ E (.pointer (some ⟨b,o', none⟩)):=fun a w ha=>by
 subst ho;simp[execOp,ha.ev h,ha.ev hi,Instr.indexAt,asIntOf,iE ht.1,h0,h1,ht.2.run,sB,Instr.sureAddr]
theorem Fr.ext {vs:Array Value} {i:Nat} (h:ev E x=some (.tuple vs)) (hi:vs[i]?=some v):Fr n ⟨d,.extract x i,ty,pos,af,g⟩ E v:=fun a w ha=>by simp[execOp,ha.ev h,Instr.extract,hi]
theorem eJ {b:Bool} {t:TypeId} (h:ev E x=some (.bool b)):Fr n ⟨d,.unOp .not t x,ty,pos,af,g⟩ E (.bool !b):=fun a w ha=>by simp[execOp,ha.ev h,Op.unary]
theorem Fr.cv {s t:TypeId} {k k' : IntKind} {i:Int} {ds:TypeDesc} (h:ev E x=some (.int k i)) (hs:P.underlying s=some ds) (ht:P.underlying t=some (.int k')):Fr n ⟨d,.convert s t x,ty,pos,af,g⟩ E (.int k' (k'.wrap i)):=fun a w ha=>by
 simp[execOp,ha.ev h,convert,iE hs,iE ht,Conv.intToInt]
theorem J0 {t:TypeId} {ds:TypeDesc} (h:ev E x=some v) (ht:P.underlying t=some ds) (hn:(match ds with|.interface _=>false|_=>true)=true):Fr n ⟨d,.makeInterface t x,ty,pos,af,g⟩ E (.iface t v):=fun a w ha=>by
 have hx:=ha.ev h
 cases ds with
 | «interface» ms=>cases hn
 | _=>simp[execOp,hx,Instr.makeInterface,iE ht]
def evs (E:eI):List Operand→Option (List Value)
 | []=>some []
 | x::xs=>match ev E x,evs E xs with
  | some v,some vs=>some (v::vs)
  | _,_=>none
theorem kD.evs {a:Act} (h:kD n E a):∀{xs:List Operand} {vs:List Value},X.evs E xs=some vs→xs.map a.eval=vs
 | [],vs,hv=>aQB hv
 | x::xs,vs,hv=>by
  simp only[X.evs]at hv
  cases h1:X.ev E x with
  | none=>simp[h1]at hv
  | some u=>
   cases h2:X.evs E xs with
   | none=>simp[h1,h2]at hv
   | some us=>
    simp only[h1,h2]at hv;rw[←aQB hv,aRC,h.ev h1,h.evs h2]
theorem tI {f:FuncId} {xs:List Operand} {vs:List Value} (h:X.evs E xs=some vs):Fr n ⟨d,.makeFunc (.func f) #[] xs.toArray,ty,pos,af,g⟩ E (.func (.func f) #[] vs.toArray):=fun a w ha=>by
 simp[execOp,Instr.makeFunc,ha.evs h]
theorem dC {t e:TypeId} {A:Option Addr} {len cap:Nat} (h:ev E x=some (.slice A len cap)) (ht:P.underlying t=some (.slice e)):Fr n ⟨d,.call { callee:=.builtin .len,args:=#[x],argTypes:=#[t] },ty,pos,af,g⟩ E (O len):=fun a w ha=>by
 simp[execOp,resolve,ha.ev h,invoke,builtin,Builtin.len_,iE ht,goInt]
theorem GW {t:TypeId} {s:ByteArray} (h:ev E x=some (.string s)) (ht:P.underlying t=some .string):Fr n ⟨d,.call { callee:=.builtin .len,args:=#[x],argTypes:=#[t] },ty,pos,af,g⟩ E (O s.size):=fun a w ha=>by
 simp[execOp,resolve,ha.ev h,invoke,builtin,Builtin.len_,iE ht,goInt]
theorem QD {t e:TypeId} {A:Option Addr} {len cap:Nat} (h:ev E x=some (.slice A len cap)) (ht:P.underlying t=some (.slice e)):Fr n ⟨d,.call { callee:=.builtin .cap,args:=#[x],argTypes:=#[t] },ty,pos,af,g⟩ E (O cap):=fun a w ha=>by
 simp[execOp,resolve,ha.ev h,invoke,builtin,Builtin.cap_,iE ht,goInt]
theorem Fr.mx {k:IntKind} {i j:Int} {ts:Array TypeId} (h:ev E x=some (.int k i)) (h' : ev E y=some (.int k j)):Fr n ⟨d,.call { callee:=.builtin .max,args:=#[x,y],argTypes:=ts },ty,pos,af,g⟩ E (.int k (max i j)):=fun a w ha=>by
 have:(if j > i then j else i)=max i j:=by omega
 simp[execOp,resolve,ha.ev h,ha.ev h', invoke,builtin,Builtin.max_,Builtin.max2,this]
def BO (op:BinOp) (t:TypeId) (u v r:Value):Prop:=∀(x y:Operand) (w:World),(do eqGuard op t x y u v;binOp op t u v:Sem Value).run P w=.ok r w
theorem aN {op:BinOp} {t t' : TypeId} {u u' r:Value} (h:ev E x=some u) (h' : ev E y=some u') (hb:BO op t u u' r):Fr n ⟨d,.binOp op t x y t', ty,pos,af,g⟩ E r:=fun a w ha=>by
 simp only[execOp,ha.ev h,ha.ev h'];rw[Sem.run_bind,hb x y w];rfl
theorem Fr.bd {t:TypeId} {ps:List (Nat × Operand)} {vs:List (Nat × Value)} {cs:Array Value} (hp:ps.map (fun p=>(p.1,(ev E p.2)))=vs.map (fun p=>(p.1,some p.2))) (hb:∀w,(Instr.build t vs.toArray).run P w=.ok (.agg cs) w) :
  Fr n ⟨d,.build t ps.toArray,ty,pos,af,g⟩ E (.agg cs):=fun a w ha=>by
 have:ps.map (fun p=>(p.1,a.eval p.2))=vs:=by
  clear hb
  induction ps generalizing vs with
  | nil=>
   cases vs with
   | nil=>rfl
   | cons v vs=>cases hp
  | cons p ps ih=>
   cases vs with
   | nil=>cases hp
   | cons v vs=>
    simp only[aRC,List.cons.injEq,aSX]at hp;rw[aRC,ih hp.2,hp.1.1,ha.ev hp.1.2]
 simp only[execOp,aRP];rw[show (List.map (fun x=>match x with|(i,x)=>(i,a.eval x)) ps)=vs from this,Sem.run_bind,hb w];rfl
end
section
variable {k:IntKind} {i j:Int} {t:TypeId}
theorem WF:BO .add t (.int k i) (.int k j) (.int k (k.wrap (i+j))):=fun x y w=>by simp[eqGuard,binOp,Op.intArith]
theorem Hu:BO .sub t (.int k i) (.int k j) (.int k (k.wrap (i-j))):=fun x y w=>by simp[eqGuard,binOp,Op.intArith]
theorem WH:BO .mul t (.int k i) (.int k j) (.int k (k.wrap (i*j))):=fun x y w=>by simp[eqGuard,binOp,Op.intArith]
theorem JM {a:Int} (h0:-9223372036854775808≤a) (h1:a≤9223372036854775807):IntKind.i64.wrap a=a:=by
 simp only[IntKind.wrap,IntKind.bits,IntKind.signed];simp;omega
theorem BO.add (h0:-9223372036854775808≤i+j) (h1:i+j≤9223372036854775807):BO .add t (O i) (O j) (O (i+j)):=by
 have:=WF (k:=.i64) (i:=i) (j:=j) (t:=t)
 rwa [JM h0 h1]at this
theorem BO.sub (h0:-9223372036854775808≤i-j) (h1:i-j≤9223372036854775807):BO .sub t (O i) (O j) (O (i-j)):=by
 have:=Hu (k:=.i64) (i:=i) (j:=j) (t:=t)
 rwa [JM h0 h1]at this
theorem JN {a:Int} (h0:0≤a) (h1:a≤18446744073709551615):IntKind.u64.wrap a=a:=by
 simp only[IntKind.wrap,IntKind.bits,IntKind.signed];simp;omega
theorem P7 (h0:0≤i+j) (h1:i+j≤18446744073709551615):BO .add t (U i) (U j) (U (i+j)):=by
 have:=WF (k:=.u64) (i:=i) (j:=j) (t:=t)
 rwa [JN h0 h1]at this
theorem Ht (h0:0≤i-j) (h1:i-j≤18446744073709551615):BO .sub t (U i) (U j) (U (i-j)):=by
 have:=Hu (k:=.u64) (i:=i) (j:=j) (t:=t)
 rwa [JN h0 h1]at this
theorem WG:BO .and t (.int k i) (.int k j) (.int k (M4 k i j)):=fun x y w=>by simp[eqGuard,binOp,Op.intBits,M4]
theorem Uz:BO .or t (.int k i) (.int k j) (.int k (Q1 k i j)):=fun x y w=>by simp[eqGuard,binOp,Op.intBits,Q1]
theorem Hv:BO .xor t (.int k i) (.int k j) (.int k (J8 k i j)):=fun x y w=>by simp[eqGuard,binOp,Op.intBits,J8]
theorem MP:BO .andNot t (.int k i) (.int k j) (.int k (BS k i j)):=fun x y w=>by simp[eqGuard,binOp,Op.intBits,BS]
theorem WK {k' : IntKind} (h:0≤j):BO .shl t (.int k i) (.int k' j) (.int k (k.wrap (i*2^min j.toNat k.bits))):=fun x y w=>by
 have h1:¬j<0:=by omega
 simp[eqGuard,binOp,Op.shift,h1]
theorem WM {k' : IntKind} (h:0≤j):BO .shr t (.int k i) (.int k' j) (.int k (i.fdiv (2^min j.toNat k.bits))):=fun x y w=>by
 have h1:¬j<0:=by omega
 simp[eqGuard,binOp,Op.shift,h1]
theorem WJ (h:j≠0):BO .rem t (.int k i) (.int k j) (.int k (i.tmod j)):=fun x y w=>by simp[eqGuard,binOp,Op.intDiv,h]
theorem Va (h:j≠0):BO .quo t (.int k i) (.int k j) (.int k (k.wrap (i.tdiv j))):=fun x y w=>by simp[eqGuard,binOp,Op.intDiv,h]
theorem W7 {x y:ByteArray}:(x.toList == y.toList)=decide (x=y):=by
 rw[Bool.eq_iff_iff];simp only[beq_iff_eq,decide_eq_true_eq];constructor
 ·intro h;simp only[ByteArray.toList_eq]at h;exact ByteArray.ext (Array.toList_inj.1 h)
 rintro rfl;rfl
theorem BO.seq {x y:ByteArray}:BO .eql t (.string x) (.string y) (.bool (decide (x=y))):=fun p q w=>by
 rw[←W7];simp[eqGuard,binOp,Op.stringOp]
theorem JS {x y:ByteArray}:BO .neq t (.string x) (.string y) (.bool (!decide (x=y))):=fun p q w=>by
 rw[←W7];simp[eqGuard,binOp,Op.stringOp]
theorem Vc {x y:ByteArray}:BO .lss t (.string x) (.string y) (.bool (iZ x y)):=fun p q w=>by simp[eqGuard,binOp,Op.stringOp,iZ]
theorem Vb {x y:ByteArray}:BO .geq t (.string x) (.string y) (.bool (!iZ x y)):=fun p q w=>by simp[eqGuard,binOp,Op.stringOp,iZ]
theorem dO:BO .eql t (.int k i) (.int k j) (.bool (decide (i=j))):=fun x y w=>by simp[eqGuard,binOp,Op.intCmp];rfl
theorem BO.ne:BO .neq t (.int k i) (.int k j) (.bool (!decide (i=j))):=fun x y w=>by simp[eqGuard,binOp,Op.intCmp];rfl
theorem BO.lt:BO .lss t (.int k i) (.int k j) (.bool (decide (i<j))):=fun x y w=>by simp[eqGuard,binOp,Op.intCmp]
theorem BO.le:BO .leq t (.int k i) (.int k j) (.bool (decide (i≤j))):=fun x y w=>by simp[eqGuard,binOp,Op.intCmp]
theorem lN:BO .gtr t (.int k i) (.int k j) (.bool (decide (j<i))):=fun x y w=>by simp[eqGuard,binOp,Op.intCmp]
theorem lX:BO .geq t (.int k i) (.int k j) (.bool (decide (j≤i))):=fun x y w=>by simp[eqGuard,binOp,Op.intCmp]
theorem x4 {n:Sz} {E:eI} {d:Option Nat} {ty t' : TypeId} {pos:String} {af:Array Edge} {g:Option (Nat × Bool)} {x y:Operand} {op:BinOp} {u u' r:Value} (h:ev E x=some u) (h' : ev E y=some u')
  (hb:∀w,(do eqGuard op t x y u u'; binOp op t u u' : Sem Value).run P w=.ok r w):Fr n ⟨d,.binOp op t x y t', ty,pos,af,g⟩ E r:=fun a w ha=>by
 simp only[execOp,ha.ev h,ha.ev h'];rw[Sem.run_bind,hb w];rfl
theorem Ry {ms:Array (String × TypeId)} (ht:P.underlying t=some (.interface ms)) (w:World):(Op.equal t .nilIface .nilIface).run P w=.ok true w:=by
 have h1:∀k,(Op.equalIn (k+1) t .nilIface .nilIface).run P w=.ok true w:=fun k=>by
  simp only[Op.equalIn,Sem.run_bind,iE ht,Result.andThen_ok,Sem.run_pure]
 exact h1 9999
theorem Rz {ms:Array (String × TypeId)} {tx:TypeId} {u:Value} (ht:P.underlying t=some (.interface ms)) (w:World):(Op.equal t (.iface tx u) .nilIface).run P w=.ok false w:=by
 have h1:∀k,(Op.equalIn (k+1) t (.iface tx u) .nilIface).run P w=.ok false w:=fun k=>by
  simp only[Op.equalIn,Sem.run_bind,iE ht,Result.andThen_ok,Sem.run_pure]
 exact h1 9999
theorem Vl {n:Sz} {E:eI} {d:Option Nat} {ty t' : TypeId} {pos:String} {af:Array Edge} {g:Option (Nat × Bool)} {x:Operand} {ms:Array (String × TypeId)} (h:ev E x=some .nilIface) (ht:P.underlying t=some (.interface ms)) :
  Fr n ⟨d,.binOp .eql t x (.const .nilIface) t', ty,pos,af,g⟩ E (.bool true):=x4 h rfl fun w=>by
 have hg:eqGuard .eql t x (.const .nilIface) .nilIface .nilIface=pure ():=by cases x<;>rfl
 rw[hg,pure_bind];show (do pure (Value.bool (←Op.equal t .nilIface .nilIface)):Sem Value).run P w=_;rw[Sem.run_bind,Ry ht];rfl
theorem Vi {n:Sz} {E:eI} {d:Option Nat} {ty t' : TypeId} {pos:String} {af:Array Edge} {g:Option (Nat × Bool)} {x:Operand} {ms:Array (String × TypeId)} {tx:TypeId} {u:Value} (h:ev E x=some (.iface tx u)) (ht:P.underlying t=some (.interface ms)) :
  Fr n ⟨d,.binOp .eql t x (.const .nilIface) t', ty,pos,af,g⟩ E (.bool false):=x4 h rfl fun w=>by
 have hg:eqGuard .eql t x (.const .nilIface) (.iface tx u) .nilIface=pure ():=Z;rw[hg,pure_bind];show (do pure (Value.bool (←Op.equal t (.iface tx u) .nilIface)):Sem Value).run P w=_;rw[Sem.run_bind,Rz ht];rfl
end
section
variable {c:i7} {E:eI} {d:Option Nat} {ty:TypeId} {pos:String} {af:Array Edge} {g:Option (Nat × Bool)} {x y z:Operand} {v:Value} {t:TW}
def At (w:World) (b o:Nat) (cs:List Value):Prop:=∀j v,cs[j]?=some v→w.cell? ⟨b,o+j,none⟩=some v
theorem At.one {w:World} {b o:Nat} {cs:List Value} (h:At w b o cs) {v:Value} (hv:cs[0]?=some v):w.cell? ⟨b,o,none⟩=some v:=h 0 v hv
theorem Bk.at {t:TW} {b:Nat} {cs:List Value} {e:TypeId} {gt:bB} (h:Bk t b cs e gt) {o:Nat} {vs:List Value} (hv:(cs.drop o).take vs.length=vs):At t.w b o vs:=fun j v hj=>by
 refine h.cell ?_;rw[←hv,aQ9]at hj;split at hj
 ·simpa using hj
 ·cases hj
theorem aF {n:Sz} {w:World} {q:TypeId} {ad:Addr} (h:ev E x=some (.pointer (some ad))) (hq:Sc q) (hc:w.cell? ad=some v):Rd n ⟨d,.load q x,ty,pos,af,g⟩ E w v:=fun a ha=>by
 obtain⟨ds,h1,h2⟩:=hq
 have:(isAgg q).run P w=.ok false w:=by
  unfold isAgg;rw[Sem.run_bind,iE h1]
  cases ds<;>first|(cases h2;done)|rfl
 simp[execOp,ha.ev h,Instr.loadAt,Instr.sureAddr,loadVar,this,hc]
theorem eQ {w:World} {q:TypeId} {k b o:Nat} {cs:List Value} (hq:Ag q k) (hk:cs.length=k) (hc:At w b o cs):(loadVar q ⟨b,o,none⟩).run P w=.ok (.agg cs.toArray) w:=by
 obtain⟨⟨ds,h1,h2⟩,h3⟩:=hq;subst hk;exact run_loadVar_mid w b o q cs ds hc h1 h2 h3
theorem Rd.la {n:Sz} {w:World} {q:TypeId} {k b o:Nat} {cs:List Value} (h:ev E x=some (.pointer (some ⟨b,o,none⟩))) (hq:Ag q k) (hc:At w b o cs) (hk:cs.length=k:=by rfl):Rd n ⟨d,.load q x,ty,pos,af,g⟩ E w (.agg cs.toArray):=fun a ha=>by
 simp[execOp,ha.ev h,Instr.loadAt,Instr.sureAddr,eQ hq hk hc]
def TW.alloc (t:TW) (cs:List Value) (e:TypeId) (gt:bB):TW:=⟨t.w.alloc (.cells cs.toArray e),fun k=>if k=t.w.heap.size then gt else t.own k⟩
theorem TW.alloc_step (t:TW) (cs:List Value) (e:TypeId) (gt:bB):bQ No t (t.alloc cs e gt):=
 ⟨rfl,rfl,rfl,by simp[TW.alloc],fun k hk _=>⟨by simp only[TW.alloc];rw[if_neg aTZ],by first|exact heap_alloc_old t.w _ k hk|exact heap_alloc_old t.w _ hk⟩⟩
theorem TW.alloc_bk (t:TW) (cs:List Value) (e:TypeId) (gt:bB):Bk (t.alloc cs e gt) t.w.heap.size cs e gt:=⟨heap_alloc_new t.w _,by simp[TW.alloc]⟩
def BP (c:i7) (t:TW) (cs:List Value) (e:TypeId) (gt:bB) (mk:Nat→Value) (v:Value) (t' : TW):Prop:=∃b,v=mk b∧bQ No t t' ∧ Bk t' b cs e gt∧c.t0.w.heap.size≤b∧t.w.heap.size≤b
theorem QL {c:i7} {t:TW} (hs:bQ c.T c.t0 t) (cs:List Value) (e:TypeId) (gt:bB) (mk:Nat→Value):BP c t cs e gt mk (mk t.w.heap.size) (t.alloc cs e gt):=
 ⟨_,rfl,t.alloc_step cs e gt,t.alloc_bk cs e gt,hs.size,aP9 _⟩
theorem dP {e:TypeId} (gt:bB) {cs:List Value} (h:ev E x=some v) (hc:v.cells=cs.toArray:=by rfl):Ef c ⟨d,.box e x,ty,pos,af,g⟩ E t (BP c t cs e gt fun b=>Y b):=.mk fun hs a ha K Q hk=>by
 unfold Oper.wp
 have:(execOp a.eval ⟨d,.box e x,ty,pos,af,g⟩).run P t.w=.ok (.value (Y t.w.heap.size)) (t.alloc cs e gt).w:=by
  simp[execOp,ha.ev h,Instr.box,newVar,newRow,hc,TW.alloc]
 rw[this];exact hk _ _ (hs.trans (t.alloc_step cs e gt).no) (QL hs cs e gt fun b=>Y b)
theorem Ef.al {e:TypeId} (gt:bB) {z:Value} {cs:List Value} (hz:Zr e z cs):Ef c ⟨d,.alloc e,ty,pos,af,g⟩ E t (BP c t cs e gt fun b=>Y b):=.mk fun hs a ha K Q hk=>by
 have h1:=hz.run t.w;have h2:=hz.cells;clear hz;unfold Oper.wp
 have:(execOp a.eval ⟨d,.alloc e,ty,pos,af,g⟩).run P t.w=.ok (.value (Y t.w.heap.size)) (t.alloc cs e gt).w:=by
  simp only[execOp,Instr.alloc,Sem.run_bind,h1,Result.andThen_ok,newVar,newRow,h2,run_newObj,Sem.run_pure];rfl
 rw[this];exact hk _ _ (hs.trans (t.alloc_step cs e gt).no) (QL hs cs e gt fun b=>Y b)
def put (cs:List Value) (o:Nat) (vs:List Value):List Value:=cs.take o++vs++cs.drop (o+vs.length)
def TW.set (t:TW) (b:Nat) (cs:List Value):TW:=⟨t.w.setRow b cs.toArray,t.own⟩
theorem QT {t:TW} {b:Nat} {cs cs' : List Value} {e:TypeId} {gt:bB} (h:Bk t b cs e gt):FB b t (t.set b cs'):=
 ⟨rfl,rfl,rfl,by simp[TW.set,World.setRow],fun k hk=>⟨rfl,setRow_other t.w b k _ hk⟩⟩
theorem QS {t:TW} {b:Nat} {cs cs' : List Value} {e:TypeId} {gt:bB} (h:Bk t b cs e gt):Bk (t.set b cs') b cs' e gt:=⟨setRow_heap t.w b _ _ e _ h.1,h.2⟩
def MY (t:TW) (b:Nat) (cs:List Value) (e:TypeId) (gt:bB) (t' : TW):Prop:=FB b t t' ∧ bQ (fun q=>q=gt) t t' ∧ Bk t' b cs e gt
theorem Ef.st {q e:TypeId} {b o k:Nat} {cs vs:List Value} {gt:bB} (h:ev E x=some (.pointer (some ⟨b,o,none⟩))) (h' : ev E y=some v) (hb:Bk t b cs e gt) (hv:v.cells=vs.toArray) (h1:∀u∈vs,u.oneCell' = true) (hq:bY q k) (hk:vs.length=k)
  (nS:o+vs.length≤cs.length) (hT:c.t0.w.heap.size≤b∨c.T gt):Ef c ⟨d,.store q x y,ty,pos,af,g⟩ E t (fun _ t' => MY t b (put cs o vs) e gt t'):=.mk fun hs a ha K Q yS=>by
 have aM:=run_storeCells_at P b o e vs 0 cs.toArray t.w hb.1 (by simpa using nS) h1;simp only[Nat.add_zero]at aM;unfold Oper.wp
 have:(execOp a.eval ⟨d,.store q x y,ty,pos,af,g⟩).run P t.w=.ok .skip (t.set b (put cs o vs)).w:=by
  simp[execOp,ha.ev h,ha.ev h', Instr.storeAt,Instr.sureAddr,storeVar,hq.run,hv,hk,aM,TW.set,put]
 rw[this];have hu:=QT (cs' := put cs o vs) hb;refine yS undef _ (hu.from hs ?_) ⟨hu,hu.step hb.2,QS hb⟩;rcases hT with hT|hT
 ·exact .inl hT
 ·by_cases aW:b<c.t0.w.heap.size
  ·by_cases N1:c.T (c.t0.own b)
   ·exact .inr N1
   ·have:=(hs.keep b aW N1).1;rw[hb.2]at this;rw[this]at hT;exact .inr hT
  ·exact .inl aTZ
theorem Ef.call {f:FuncId} {xs:List Operand} {vs:List Value} {ts:Array TypeId} {T:bB→Prop} {Φ:Value→TW→Prop} (hx:evs E xs=some vs) (hf:aO f) (h:aL f vs t T Φ) (hT:∀q,T q→c.T q) :
  Ef c ⟨d,.call { callee:=.value (.func f),args:=xs.toArray,argTypes:=ts },ty,pos,af,g⟩ E t (fun v t' => bQ T t t' ∧ Φ v t'):=.mk fun hs a ha K Q hk=>by
 unfold Oper.wp
 have:(execOp a.eval ⟨d,.call { callee:=.value (.func f),args:=xs.toArray,argTypes:=ts },ty,pos,af,g⟩).run P t.w=.ok (.enter f vs.toArray) t.w:=by
  simp only[execOp,resolve,Act.eval,Deferred.ofValue,invoke,aRP,ha.evs hx,Sem.run_bind,Sem.run_pure,Result.andThen_ok,aTJ,Array.append_empty];exact hf _ _
 rw[this];refine Calls.mono h fun e w' hh=>?_;obtain⟨v,own', rfl,fM, hp⟩:=hh;exact hk v ⟨w', own'⟩ (hs.trans (fM.mono hT)) ⟨fM, hp⟩
theorem ZC {c:i7} {t t' : TW} {T:bB→Prop} (hs:bQ c.T c.t0 t) (fM : bQ T t t') (hT:∀q,T q→c.T q∨∀k,k<c.t0.w.heap.size→c.t0.own k≠q):bQ c.T c.t0 t' :=
 ⟨fM.os.trans hs.os,fM.tape.trans hs.tape,fM.output.trans hs.output,aP8 hs.size fM.size,fun k hk hn=>by
  obtain⟨h1,h2⟩:=hs.keep k hk hn
  obtain⟨k1,k2⟩:=fM.keep k (aSI hk hs.size) (fun hq=>by
   rcases hT _ hq with h|h
   ·rw[h1]at h;exact hn h
   ·exact h k hk h1.symm)
  exact⟨k1.trans h1,k2.trans h2⟩⟩
theorem nG {f:FuncId} {xs:List Operand} {vs:List Value} {ts:Array TypeId} {T:bB→Prop} {Φ:Value→TW→Prop} (hx:evs E xs=some vs) (hf:aO f) (h:aL f vs t T Φ) (hT:∀q,T q→c.T q∨∀k,k<c.t0.w.heap.size→c.t0.own k≠q) :
  Ef c ⟨d,.call { callee:=.value (.func f),args:=xs.toArray,argTypes:=ts },ty,pos,af,g⟩ E t (fun v t' => bQ T t t' ∧ Φ v t'):=.mk fun hs a ha K Q hk=>by
 unfold Oper.wp
 have:(execOp a.eval ⟨d,.call { callee:=.value (.func f),args:=xs.toArray,argTypes:=ts },ty,pos,af,g⟩).run P t.w=.ok (.enter f vs.toArray) t.w:=by
  simp only[execOp,resolve,Act.eval,Deferred.ofValue,invoke,aRP,ha.evs hx,Sem.run_bind,Sem.run_pure,Result.andThen_ok,aTJ,Array.append_empty];exact hf _ _
 rw[this];refine Calls.mono h fun e w' hh=>?_;obtain⟨v,own', rfl,fM, hp⟩:=hh;exact hk v ⟨w', own'⟩ (ZC hs fM hT) ⟨fM, hp⟩
theorem DM {f:FuncId} {s:Nat} {cap:List Value} {xs:List Operand} {vs:List Value} {ts:Array TypeId} {T:bB→Prop} {Φ:Value→TW→Prop} (hc:lk E s=some (.func (.func f) #[] cap.toArray)) (hx:evs E xs=some vs) (hf:aO f) (h:aL f (vs++cap) t T Φ) (hT:∀q,T q→c.T q) :
  Ef c ⟨d,.call { callee:=.value (.tmp s),args:=xs.toArray,argTypes:=ts },ty,pos,af,g⟩ E t (fun v t' => bQ T t t' ∧ Φ v t'):=.mk fun hs a ha K Q hk=>by
 unfold Oper.wp;have rK:=ha.ev (x:=.tmp s) hc
 have:(execOp a.eval ⟨d,.call { callee:=.value (.tmp s),args:=xs.toArray,argTypes:=ts },ty,pos,af,g⟩).run P t.w=.ok (.enter f (vs++cap).toArray) t.w:=by
  simp only[execOp,resolve,rK,Deferred.ofValue,invoke,aRP,ha.evs hx,Sem.run_bind,Sem.run_pure,Result.andThen_ok,aTJ,List.append_toArray];exact hf _ _
 rw[this];refine Calls.mono h fun e w' hh=>?_;obtain⟨v,own', rfl,fM, hp⟩:=hh;exact hk v ⟨w', own'⟩ (hs.trans (fM.mono hT)) ⟨fM, hp⟩
end
section
variable {c:i7} {ops:Array Oper} {Q:Exit→Act→World→Prop} {rest:List Oper} {E:eI} {t:TW} {d:Nat} {ty:TypeId} {pos:String} {af:Array Edge} {g:Option (Nat × Bool)} {v:Value} {x:Operand}
theorem WL.m (h:ev E x=some v) (k:WL c ops Q rest ((d,v)::E) t) (hg:gd ops E g=some true:=by rfl) (hd:aQ2 d c.n.n=true:=by rfl):WL c ops Q (⟨some d,.move x,ty,pos,af,g⟩::rest) E t:=aA (x6 h) k hg hd
theorem WL.a (h:ev E x=some v) (k:WL c ops Q rest ((d,v)::E) t) (hg:gd ops E g=some true:=by rfl) (hd:aQ2 d c.n.n=true:=by rfl):WL c ops Q (⟨some d,.assign x,ty,pos,af,g⟩::rest) E t:=aA (hZ h) k hg hd
theorem WL.q {s f b o off:Nat} (o' : Nat) (h:ev E x=some (.pointer (some ⟨b,o,none⟩))) (hf:FA s f off) (k:WL c ops Q rest ((d,.pointer (some ⟨b,o', none⟩))::E) t) (ho:o+off=o' := by rfl) (hg:gd ops E g=some true:=by rfl) (hd:aQ2 d c.n.n=true:=by rfl):WL c ops Q (⟨some d,.fieldAddr s x f,ty,pos,af,g⟩::rest) E t:=aA (eC h hf ho) k hg hd
theorem Fr.q {n:Sz} {s f b o off:Nat} {d:Option Nat} (o' : Nat) (h:ev E x=some (.pointer (some ⟨b,o,none⟩))) (hf:FA s f off) (ho:o+off=o' := by rfl):Fr n ⟨d,.fieldAddr s x f,ty,pos,af,g⟩ E (.pointer (some ⟨b,o', none⟩)):=eC h hf ho
theorem Bk.a {T:bB→Prop} {t t' : TW} {b:Nat} {cs:List Value} {e:TypeId} {gt:bB} (h:Bk t b cs e gt) (s:bQ T t t') {o:Nat} {vs:List Value} (hv:(cs.drop o).take vs.length=vs:=by rfl) (hg:¬T gt:=by first|exact id|nofun|(rintro (h|h)<;>cases h)|(rintro (h|h|h)<;>cases h)):At t'.w b o vs:=(h.step s hg).at hv
theorem Ef.T {d:Option Nat} {y:Operand} {q e:TypeId} {b o k:Nat} {cs:List Value} (vs:List Value) {gt:bB} (h:ev E x=some (.pointer (some ⟨b,o,none⟩))) (h' : ev E y=some v) (hb:Bk t b cs e gt) (hq:bY q k) (hT:c.t0.w.heap.size≤b∨c.T gt) (hv:v.cells=vs.toArray:=by rfl) (h1:∀u∈vs,u.oneCell' = true:=by simp[Value.oneCell']) (hk:vs.length=k:=by rfl) (nS:o+vs.length≤cs.length:=by simp):Ef c ⟨d,.store q x y,ty,pos,af,g⟩ E t (fun _ t' => MY t b (put cs o vs) e gt t'):=Ef.st h h' hb hv h1 hq hk nS hT
end
theorem bE:Sc 3:=⟨_,underlying3,rfl⟩
theorem mU:Sc 4:=⟨_,underlying4,rfl⟩
theorem fN:Sc 9:=⟨_,underlying9,rfl⟩
theorem gT:Sc 22:=⟨_,underlying22,rfl⟩
theorem C9:Sc 25:=⟨_,underlying25,rfl⟩
theorem VQ:Sc 26:=⟨_,underlying26,rfl⟩
theorem aMT:Sc 31:=⟨_,underlying31,rfl⟩
theorem DA:Sc 35:=⟨_,underlying35,rfl⟩
theorem PT:Sc 37:=⟨_,underlying37,rfl⟩
theorem JH:Sc 43:=⟨_,underlying43,rfl⟩
theorem vQ:Sc 44:=⟨_,underlying44,rfl⟩
theorem DB:Sc 47:=⟨_,underlying47,rfl⟩
theorem mV:Sc 48:=⟨_,underlying48,rfl⟩
theorem EV:Sc 53:=⟨_,underlying53,rfl⟩
theorem nE:Sc 54:=⟨_,underlying54,rfl⟩
theorem zH:Sc 57:=⟨_,underlying57,rfl⟩
theorem Gb:Sc 69:=⟨_,underlying69,rfl⟩
theorem GO:Sc 76:=⟨_,underlying76,rfl⟩
theorem Gc:Sc 86:=⟨_,underlying86,rfl⟩
theorem Sf:Sc 91:=⟨_,underlying91,rfl⟩
theorem BH:Sc 103:=⟨_,underlying103,rfl⟩
theorem BI:Sc 104:=⟨_,underlying104,rfl⟩
theorem PQ:Sc 105:=⟨_,underlying105,rfl⟩
theorem Fx:Sc 108:=⟨_,underlying108,rfl⟩
theorem MD:Sc 109:=⟨_,underlying109,rfl⟩
theorem C8:Sc 111:=⟨_,underlying111,rfl⟩
theorem JG:Sc 123:=⟨_,underlying123,rfl⟩
theorem qX:Sc 141:=⟨_,underlying141,rfl⟩
theorem aMO:Sc 142:=⟨_,underlying142,rfl⟩
theorem VL:Sc 149:=⟨_,underlying149,rfl⟩
theorem ME:Sc 153:=⟨_,underlying153,rfl⟩
theorem VM:Sc 158:=⟨_,underlying158,rfl⟩
theorem VN:Sc 161:=⟨_,underlying161,rfl⟩
theorem aMP:Sc 166:=⟨_,underlying166,rfl⟩
theorem PS:Sc 176:=⟨_,underlying176,rfl⟩
theorem Fy:Sc 179:=⟨_,underlying179,rfl⟩
theorem VO:Sc 186:=⟨_,underlying186,rfl⟩
theorem mE:Sc 190:=⟨_,underlying190,rfl⟩
theorem Fz:Sc 201:=⟨_,underlying201,rfl⟩
theorem Ga:Sc 207:=⟨_,underlying207,rfl⟩
theorem VP:Sc 213:=⟨_,underlying213,rfl⟩
theorem aMQ:Sc 220:=⟨_,underlying220,rfl⟩
theorem aMR:Sc 239:=⟨_,underlying239,rfl⟩
theorem aMS:Sc 253:=⟨_,underlying253,rfl⟩
theorem dF:bY 3 1:=by unfold bY;kernel_rfl
theorem lM:bY 4 1:=by unfold bY;kernel_rfl
theorem MK:bY 9 1:=by unfold bY;kernel_rfl
theorem oV:bY 22 1:=by unfold bY;kernel_rfl
theorem MG:bY 24 7:=by unfold bY;kernel_rfl
theorem aOM:bY 25 1:=by unfold bY;kernel_rfl
theorem Tu:bY 26 1:=by unfold bY;kernel_rfl
theorem Tv:bY 28 9:=by unfold bY;kernel_rfl
theorem MH:bY 32 1:=by unfold bY;kernel_rfl
theorem VY:bY 35 1:=by unfold bY;kernel_rfl
theorem Tw:bY 37 1:=by unfold bY;kernel_rfl
theorem r6:bY 42 3:=by unfold bY;kernel_rfl
theorem Tx:bY 43 1:=by unfold bY;kernel_rfl
theorem VZ:bY 44 1:=by unfold bY;kernel_rfl
theorem Gz:bY 47 1:=by unfold bY;kernel_rfl
theorem oW:bY 48 1:=by unfold bY;kernel_rfl
theorem aON:bY 49 8:=by unfold bY;kernel_rfl
theorem Ty:bY 50 8:=by unfold bY;kernel_rfl
theorem aOO:bY 53 1:=by unfold bY;kernel_rfl
theorem MI:bY 54 1:=by unfold bY;kernel_rfl
theorem V0:bY 56 7:=by unfold bY;kernel_rfl
theorem zR:bY 57 1:=by unfold bY;kernel_rfl
theorem jM:bY 59 4:=by unfold bY;kernel_rfl
theorem MJ:bY 61 18:=by unfold bY;kernel_rfl
theorem Tz:bY 69 1:=by unfold bY;kernel_rfl
theorem uP:bY 72 3:=by unfold bY;kernel_rfl
theorem V1:bY 74 8:=by unfold bY;kernel_rfl
theorem Ua:bY 76 1:=by unfold bY;kernel_rfl
theorem Ha:bY 78 3:=by unfold bY;kernel_rfl
theorem Hb:bY 86 1:=by unfold bY;kernel_rfl
theorem aOP:bY 91 1:=by unfold bY;kernel_rfl
theorem aN6:bY 103 1:=by unfold bY;kernel_rfl
theorem JJ:bY 104 1:=by unfold bY;kernel_rfl
theorem aN7:bY 105 1:=by unfold bY;kernel_rfl
theorem aN8:bY 108 1:=by unfold bY;kernel_rfl
theorem aN9:bY 109 1:=by unfold bY;kernel_rfl
theorem Gx:bY 111 1:=by unfold bY;kernel_rfl
theorem Tj:bY 123 1:=by unfold bY;kernel_rfl
theorem PZ:bY 125 5:=by unfold bY;kernel_rfl
theorem aOA:bY 128 7:=by unfold bY;kernel_rfl
theorem DD:bY 134 4:=by unfold bY;kernel_rfl
theorem Tk:bY 140 2:=by unfold bY;kernel_rfl
theorem P0:bY 141 1:=by unfold bY;kernel_rfl
theorem Tl:bY 142 1:=by unfold bY;kernel_rfl
theorem DE:bY 147 2:=by unfold bY;kernel_rfl
theorem aOB:bY 149 1:=by unfold bY;kernel_rfl
theorem zQ:bY 152 1:=by unfold bY;kernel_rfl
theorem aOC:bY 153 1:=by unfold bY;kernel_rfl
theorem jU:bY 155 2:=by unfold bY;kernel_rfl
theorem aOD:bY 157 8:=by unfold bY;kernel_rfl
theorem Tm:bY 158 1:=by unfold bY;kernel_rfl
theorem aOE:bY 161 1:=by unfold bY;kernel_rfl
theorem aOF:bY 166 1:=by unfold bY;kernel_rfl
theorem aOG:bY 176 1:=by unfold bY;kernel_rfl
theorem DF:bY 178 2:=by unfold bY;kernel_rfl
theorem Tn:bY 179 1:=by unfold bY;kernel_rfl
theorem To:bY 180 8:=by unfold bY;kernel_rfl
theorem Tp:bY 186 1:=by unfold bY;kernel_rfl
theorem aOH:bY 190 1:=by unfold bY;kernel_rfl
theorem Tq:bY 201 1:=by unfold bY;kernel_rfl
theorem Tr:bY 207 1:=by unfold bY;kernel_rfl
theorem aOI:bY 212 1:=by unfold bY;kernel_rfl
theorem Ts:bY 213 1:=by unfold bY;kernel_rfl
theorem aOJ:bY 220 1:=by unfold bY;kernel_rfl
theorem aOK:bY 222 3:=by unfold bY;kernel_rfl
theorem EZ:bY 228 4:=by unfold bY;kernel_rfl
theorem Gy:bY 230 7:=by unfold bY;kernel_rfl
theorem aOL:bY 235 2:=by unfold bY;kernel_rfl
theorem Tt:bY 253 1:=by unfold bY;kernel_rfl
theorem DP:Ag 24 7:=⟨⟨_,underlying24,rfl⟩,MG⟩
theorem M2:Ag 28 9:=⟨⟨_,underlying28,rfl⟩,Tv⟩
theorem sD:Ag 42 3:=⟨⟨_,underlying42,rfl⟩,r6⟩
theorem Wi:Ag 50 8:=⟨⟨_,underlying50,rfl⟩,Ty⟩
theorem pP:Ag 56 7:=⟨⟨_,underlying56,rfl⟩,V0⟩
theorem jO:Ag 59 4:=⟨⟨_,underlying59,rfl⟩,jM⟩
theorem G8:Ag 61 18:=⟨⟨_,underlying61,rfl⟩,MJ⟩
theorem l1:Ag 72 3:=⟨⟨_,underlying72,rfl⟩,uP⟩
theorem FE:Ag 74 8:=⟨⟨_,underlying74,rfl⟩,V1⟩
theorem Ik:Ag 78 3:=⟨⟨_,underlying78,rfl⟩,Ha⟩
theorem M1:Ag 125 5:=⟨⟨_,underlying125,rfl⟩,PZ⟩
theorem nK:Ag 134 4:=⟨⟨_,underlying134,rfl⟩,DD⟩
theorem Wf:Ag 140 2:=⟨⟨_,underlying140,rfl⟩,Tk⟩
theorem sC:Ag 147 2:=⟨⟨_,underlying147,rfl⟩,DE⟩
theorem rA:Ag 152 1:=⟨⟨_,underlying152,rfl⟩,zQ⟩
theorem gO:Ag 155 2:=⟨⟨_,underlying155,rfl⟩,jU⟩
theorem uU:Ag 178 2:=⟨⟨_,underlying178,rfl⟩,DF⟩
theorem Wg:Ag 180 8:=⟨⟨_,underlying180,rfl⟩,To⟩
theorem G7:Ag 228 4:=⟨⟨_,underlying228,rfl⟩,EZ⟩
theorem Wh:Ag 230 7:=⟨⟨_,underlying230,rfl⟩,Gy⟩
theorem FM:FA 24 0 0:=⟨_,_,0,underlying24,rfl,rfl,dF⟩
theorem Y2:FA 24 1 1:=⟨_,_,0,underlying24,rfl,rfl,dF⟩
theorem SF:FA 24 2 2:=⟨_,_,0,underlying24,rfl,rfl,dF⟩
theorem Lr:FA 24 3 3:=⟨_,_,0,underlying24,rfl,rfl,dF⟩
theorem aDF:FA 24 4 4:=⟨_,_,0,underlying24,rfl,rfl,dF⟩
theorem aDG:FA 24 5 5:=⟨_,_,0,underlying24,rfl,rfl,oV⟩
theorem Ls:FA 24 6 6:=⟨_,_,0,underlying24,rfl,rfl,oV⟩
theorem Y3:FA 28 0 0:=⟨_,_,6,underlying28,rfl,rfl,MG⟩
theorem B5:FA 28 1 7:=⟨_,_,0,underlying28,rfl,rfl,aOM⟩
theorem NR:FA 28 2 8:=⟨_,_,0,underlying28,rfl,rfl,Tu⟩
theorem AA:FA 42 0 0:=⟨_,_,0,underlying42,rfl,rfl,oV⟩
theorem FN:FA 42 1 1:=⟨_,_,0,underlying42,rfl,rfl,oV⟩
theorem D3:FA 42 2 2:=⟨_,_,0,underlying42,rfl,rfl,lM⟩
theorem KV:FA 46 0 0:=⟨_,_,6,underlying46,rfl,rfl,MG⟩
theorem yK:FA 46 1 7:=⟨_,_,2,underlying46,rfl,rfl,r6⟩
theorem FO:FA 46 2 10:=⟨_,_,0,underlying46,rfl,rfl,Tx⟩
theorem tN:FA 46 3 11:=⟨_,_,0,underlying46,rfl,rfl,VZ⟩
theorem Lt:FA 52 0 0:=⟨_,_,0,underlying52,rfl,rfl,dF⟩
theorem yL:FA 52 1 1:=⟨_,_,0,underlying52,rfl,rfl,Gz⟩
theorem NS:FA 52 2 2:=⟨_,_,7,underlying52,rfl,rfl,aON⟩
theorem Y4:FA 52 3 10:=⟨_,_,7,underlying52,rfl,rfl,Ty⟩
theorem o5:FA 56 0 0:=⟨_,_,0,underlying56,rfl,rfl,dF⟩
theorem iS:FA 56 1 1:=⟨_,_,0,underlying56,rfl,rfl,MK⟩
theorem xB:FA 56 2 2:=⟨_,_,0,underlying56,rfl,rfl,dF⟩
theorem NT:FA 56 3 3:=⟨_,_,0,underlying56,rfl,rfl,dF⟩
theorem NU:FA 56 4 4:=⟨_,_,0,underlying56,rfl,rfl,dF⟩
theorem Lu:FA 56 5 5:=⟨_,_,0,underlying56,rfl,rfl,oV⟩
theorem wC:FA 56 6 6:=⟨_,_,0,underlying56,rfl,rfl,MI⟩
theorem NV:FA 59 0 0:=⟨_,_,0,underlying59,rfl,rfl,MH⟩
theorem tO:FA 59 1 1:=⟨_,_,0,underlying59,rfl,rfl,zR⟩
theorem KW:FA 59 2 2:=⟨_,_,0,underlying59,rfl,rfl,oW⟩
theorem HJ:FA 59 3 3:=⟨_,_,0,underlying59,rfl,rfl,lM⟩
theorem Y5:FA 61 0 0:=⟨_,_,0,underlying61,rfl,rfl,dF⟩
theorem SG:FA 61 2 2:=⟨_,_,6,underlying61,rfl,rfl,V0⟩
theorem aDH:FA 61 3 9:=⟨_,_,0,underlying61,rfl,rfl,dF⟩
theorem aDI:FA 61 4 10:=⟨_,_,0,underlying61,rfl,rfl,oV⟩
theorem aDJ:FA 61 5 11:=⟨_,_,0,underlying61,rfl,rfl,dF⟩
theorem HK:FA 61 6 12:=⟨_,_,0,underlying61,rfl,rfl,dF⟩
theorem KX:FA 61 7 13:=⟨_,_,0,underlying61,rfl,rfl,dF⟩
theorem D4:FA 61 8 14:=⟨_,_,3,underlying61,rfl,rfl,jM⟩
theorem aDK:FA 72 2 2:=⟨_,_,0,underlying72,rfl,rfl,dF⟩
theorem SH:FA 74 3 7:=⟨_,_,0,underlying74,rfl,rfl,oV⟩
theorem aDL:FA 78 0 0:=⟨_,_,0,underlying78,rfl,rfl,dF⟩
theorem aDM:FA 78 1 1:=⟨_,_,0,underlying78,rfl,rfl,dF⟩
theorem aDN:FA 78 2 2:=⟨_,_,0,underlying78,rfl,rfl,oV⟩
theorem z9:FA 107 0 0:=⟨_,_,0,underlying107,rfl,rfl,aN6⟩
theorem yI:FA 107 1 1:=⟨_,_,0,underlying107,rfl,rfl,JJ⟩
theorem NE:FA 107 2 2:=⟨_,_,0,underlying107,rfl,rfl,aN7⟩
theorem NF:FA 107 3 3:=⟨_,_,0,underlying107,rfl,rfl,dF⟩
theorem DX:FA 107 4 4:=⟨_,_,0,underlying107,rfl,rfl,dF⟩
theorem YO:FA 107 5 5:=⟨_,_,0,underlying107,rfl,rfl,dF⟩
theorem YP:FA 107 6 6:=⟨_,_,0,underlying107,rfl,rfl,dF⟩
theorem DY:FA 107 7 7:=⟨_,_,0,underlying107,rfl,rfl,VY⟩
theorem YQ:FA 113 0 0:=⟨_,_,0,underlying113,rfl,rfl,Ua⟩
theorem KL:FA 113 1 1:=⟨_,_,0,underlying113,rfl,rfl,dF⟩
theorem aC4:FA 113 2 2:=⟨_,_,0,underlying113,rfl,rfl,aN9⟩
theorem yJ:FA 113 3 3:=⟨_,_,0,underlying113,rfl,rfl,Gx⟩
theorem Ld:FA 113 4 4:=⟨_,_,0,underlying113,rfl,rfl,dF⟩
theorem NG:FA 125 0 0:=⟨_,_,0,underlying125,rfl,rfl,MK⟩
theorem aC5:FA 125 1 1:=⟨_,_,0,underlying125,rfl,rfl,Tj⟩
theorem R8:FA 125 2 2:=⟨_,_,2,underlying125,rfl,rfl,uP⟩
theorem Lf:FA 128 0 0:=⟨_,_,0,underlying128,rfl,rfl,MK⟩
theorem aC6:FA 128 1 1:=⟨_,_,2,underlying128,rfl,rfl,uP⟩
theorem aC7:FA 128 2 4:=⟨_,_,2,underlying128,rfl,rfl,uP⟩
theorem uW:FA 134 0 0:=⟨_,_,0,underlying134,rfl,rfl,dF⟩
theorem Lg:FA 134 1 1:=⟨_,_,0,underlying134,rfl,rfl,dF⟩
theorem B3:FA 134 2 2:=⟨_,_,0,underlying134,rfl,rfl,dF⟩
theorem HD:FA 134 3 3:=⟨_,_,0,underlying134,rfl,rfl,oV⟩
theorem YR:FA 140 0 0:=⟨_,_,0,underlying140,rfl,rfl,dF⟩
theorem Lh:FA 140 1 1:=⟨_,_,0,underlying140,rfl,rfl,MK⟩
theorem YS:FA 144 0 0:=⟨_,_,6,underlying144,rfl,rfl,MG⟩
theorem DZ:FA 144 1 7:=⟨_,_,2,underlying144,rfl,rfl,r6⟩
theorem pQ:FA 144 2 10:=⟨_,_,0,underlying144,rfl,rfl,P0⟩
theorem Li:FA 144 3 11:=⟨_,_,0,underlying144,rfl,rfl,Tl⟩
theorem HF:FA 147 0 0:=⟨_,_,0,underlying147,rfl,rfl,oV⟩
theorem aC8:FA 147 1 1:=⟨_,_,0,underlying147,rfl,rfl,oV⟩
theorem Lj:FA 152 0 0:=⟨_,_,0,underlying152,rfl,rfl,dF⟩
theorem NH:FA 155 0 0:=⟨_,_,0,underlying155,rfl,rfl,MI⟩
theorem KM:FA 155 1 1:=⟨_,_,0,underlying155,rfl,rfl,aOC⟩
theorem NI:FA 157 0 0:=⟨_,_,0,underlying157,rfl,rfl,zQ⟩
theorem NJ:FA 157 1 1:=⟨_,_,1,underlying157,rfl,rfl,DE⟩
theorem Lk:FA 157 2 3:=⟨_,_,1,underlying157,rfl,rfl,jU⟩
theorem KN:FA 157 3 5:=⟨_,_,1,underlying157,rfl,rfl,jU⟩
theorem R9:FA 157 4 7:=⟨_,_,0,underlying157,rfl,rfl,aOB⟩
theorem KO:FA 160 0 0:=⟨_,_,0,underlying160,rfl,rfl,dF⟩
theorem Ll:FA 160 1 1:=⟨_,_,0,underlying160,rfl,rfl,dF⟩
theorem NK:FA 160 2 2:=⟨_,_,0,underlying160,rfl,rfl,Tm⟩
theorem SA:FA 163 0 0:=⟨_,_,0,underlying163,rfl,rfl,aOE⟩
theorem SB:FA 178 0 0:=⟨_,_,0,underlying178,rfl,rfl,MI⟩
theorem NL:FA 178 1 1:=⟨_,_,0,underlying178,rfl,rfl,aOG⟩
theorem D0:FA 182 0 0:=⟨_,_,1,underlying182,rfl,rfl,DF⟩
theorem YT:FA 182 1 2:=⟨_,_,7,underlying182,rfl,rfl,To⟩
theorem aC9:FA 196 0 0:=⟨_,_,0,underlying196,rfl,rfl,dF⟩
theorem KP:FA 196 1 1:=⟨_,_,0,underlying196,rfl,rfl,oW⟩
theorem YU:FA 196 2 2:=⟨_,_,0,underlying196,rfl,rfl,lM⟩
theorem KQ:FA 198 0 0:=⟨_,_,0,underlying198,rfl,rfl,dF⟩
theorem HG:FA 198 1 1:=⟨_,_,0,underlying198,rfl,rfl,dF⟩
theorem NM:FA 198 2 2:=⟨_,_,0,underlying198,rfl,rfl,Tp⟩
theorem HH:FA 198 3 3:=⟨_,_,0,underlying198,rfl,rfl,dF⟩
theorem YV:FA 198 4 4:=⟨_,_,2,underlying198,rfl,rfl,r6⟩
theorem YW:FA 198 5 7:=⟨_,_,0,underlying198,rfl,rfl,dF⟩
theorem SC:FA 198 6 8:=⟨_,_,3,underlying198,rfl,rfl,jM⟩
theorem FL:FA 209 0 0:=⟨_,_,0,underlying209,rfl,rfl,dF⟩
theorem YY:FA 209 1 1:=⟨_,_,0,underlying209,rfl,rfl,MI⟩
theorem aDA:FA 209 2 2:=⟨_,_,0,underlying209,rfl,rfl,dF⟩
theorem KR:FA 209 3 3:=⟨_,_,0,underlying209,rfl,rfl,Tw⟩
theorem sE:FA 209 4 4:=⟨_,_,0,underlying209,rfl,rfl,dF⟩
theorem B4:FA 209 5 5:=⟨_,_,0,underlying209,rfl,rfl,dF⟩
theorem Y0:FA 209 6 6:=⟨_,_,0,underlying209,rfl,rfl,dF⟩
theorem SE:FA 209 7 7:=⟨_,_,0,underlying209,rfl,rfl,Tz⟩
theorem KT:FA 209 8 8:=⟨_,_,0,underlying209,rfl,rfl,lM⟩
theorem KU:FA 209 9 9:=⟨_,_,0,underlying209,rfl,rfl,lM⟩
theorem SD:FA 209 10 10:=⟨_,_,0,underlying209,rfl,rfl,Tr⟩
theorem NN:FA 209 11 11:=⟨_,_,2,underlying209,rfl,rfl,r6⟩
theorem YZ:FA 209 12 14:=⟨_,_,0,underlying209,rfl,rfl,dF⟩
theorem NO:FA 209 13 15:=⟨_,_,0,underlying209,rfl,rfl,dF⟩
theorem D1:FA 209 14 16:=⟨_,_,3,underlying209,rfl,rfl,jM⟩
theorem Lm:FA 212 0 0:=⟨_,_,0,underlying212,rfl,rfl,dF⟩
theorem Ln:FA 215 0 0:=⟨_,_,0,underlying215,rfl,rfl,aOI⟩
theorem NP:FA 215 1 1:=⟨_,_,0,underlying215,rfl,rfl,Ts⟩
theorem NQ:FA 215 2 2:=⟨_,_,0,underlying215,rfl,rfl,dF⟩
theorem Lo:FA 215 3 3:=⟨_,_,2,underlying215,rfl,rfl,r6⟩
theorem D2:FA 215 4 6:=⟨_,_,3,underlying215,rfl,rfl,jM⟩
theorem Y1:FA 228 0 0:=⟨_,_,0,underlying228,rfl,rfl,Tj⟩
theorem Lp:FA 228 1 1:=⟨_,_,2,underlying228,rfl,rfl,uP⟩
theorem Lq:FA 230 0 0:=⟨_,_,0,underlying230,rfl,rfl,MK⟩
theorem aDB:FA 230 1 1:=⟨_,_,2,underlying230,rfl,rfl,uP⟩
theorem aDC:FA 230 2 4:=⟨_,_,2,underlying230,rfl,rfl,uP⟩
theorem aDD:FA 235 0 0:=⟨_,_,0,underlying235,rfl,rfl,dF⟩
theorem aDE:FA 235 1 1:=⟨_,_,0,underlying235,rfl,rfl,aOF⟩
theorem PU:iQ 25 76 1:=⟨underlying25,Ua⟩
theorem Sv:iQ 26 78 3:=⟨underlying26,Ha⟩
theorem vR:iQ 35 61 18:=⟨underlying35,MJ⟩
theorem zJ:iQ 37 3 1:=⟨underlying37,dF⟩
theorem MF:iQ 43 86 1:=⟨underlying43,Hb⟩
theorem zK:iQ 44 53 1:=⟨underlying44,aOO⟩
theorem EY:iQ 47 140 2:=⟨underlying47,Tk⟩
theorem j5:iQ 48 74 8:=⟨underlying48,V1⟩
theorem jT:iQ 54 9 1:=⟨underlying54,MK⟩
theorem BK:iQ 57 72 3:=⟨underlying57,uP⟩
theorem VU:iQ 69 22 1:=⟨underlying69,oV⟩
theorem PV:iQ 76 56 7:=⟨underlying76,V0⟩
theorem Gq:iQ 83 4 1:=⟨underlying83,lM⟩
theorem xX:iQ 86 125 5:=⟨underlying86,PZ⟩
theorem PX:iQ 87 128 7:=⟨underlying87,aOA⟩
theorem wV:iQ 91 48 1:=⟨underlying91,oW⟩
theorem EX:iQ 104 108 1:=⟨underlying104,aN8⟩
theorem fU:iQ 123 134 4:=⟨underlying123,DD⟩
theorem qZ:iQ 141 157 8:=⟨underlying141,aOD⟩
theorem aM8:iQ 142 222 3:=⟨underlying142,aOK⟩
theorem mF:iQ 153 228 4:=⟨underlying153,EZ⟩
theorem mW:iQ 176 253 1:=⟨underlying176,Tt⟩
theorem Gn:iQ 201 230 7:=⟨underlying201,Gy⟩
theorem Gp:iQ 213 235 2:=⟨underlying213,aOL⟩
theorem aM9:iQ 218 220 1:=⟨underlying218,aOJ⟩
theorem yC:MO 49 8 48 1:=⟨underlying49,oW⟩
theorem M3:MO 50 8 4 1:=⟨underlying50,lM⟩
theorem W2:MO 180 8 179 1:=⟨underlying180,Tn⟩
theorem JQ:Zr 3 (O 0) [O 0]:=⟨Tryz.zeroValue3,rfl⟩
theorem zr4:Zr 4 (.bool false) [.bool false]:=⟨Tryz.zeroValue4,rfl⟩
theorem Ux:Zr 24 (.agg #[O 0,O 0,O 0,O 0,O 0,U 0,U 0]) [O 0,O 0,O 0,O 0,O 0,U 0,U 0]:=⟨Tryz.zeroValue24,rfl⟩
theorem aPV:Zr 28 (.agg #[O 0,O 0,O 0,O 0,O 0,U 0,U 0,.slice none 0 0,.slice none 0 0]) [O 0,O 0,O 0,O 0,O 0,U 0,U 0,.slice none 0 0,.slice none 0 0]:=⟨Tryz.zeroValue28,rfl⟩
theorem aPW:Zr 35 (.slice none 0 0) [.slice none 0 0]:=⟨Tryz.zeroValue35,rfl⟩
theorem P6:Zr 42 (.agg #[U 0,U 0,.bool false]) [U 0,U 0,.bool false]:=⟨Tryz.zeroValue42,rfl⟩
theorem aPX:Zr 48 (.slice none 0 0) [.slice none 0 0]:=⟨Tryz.zeroValue48,rfl⟩
theorem aPY:Zr 50 (.agg #[.bool false,.bool false,.bool false,.bool false,.bool false,.bool false,.bool false,.bool false]) [.bool false,.bool false,.bool false,.bool false,.bool false,.bool false,.bool false,.bool false]:=⟨Tryz.zeroValue50,rfl⟩
theorem aPZ:Zr 56 (.agg #[O 0,.string ⟨#[]⟩,O 0,O 0,O 0,U 0,.slice none 0 0]) [O 0,.string ⟨#[]⟩,O 0,O 0,O 0,U 0,.slice none 0 0]:=⟨Tryz.zeroValue56,rfl⟩
theorem GR:Zr 59 (.agg #[O 0,.slice none 0 0,.slice none 0 0,.bool false]) [O 0,.slice none 0 0,.slice none 0 0,.bool false]:=⟨Tryz.zeroValue59,rfl⟩
theorem WE:Zr 61 (.agg #[O 0,O 0,O 0,.string ⟨#[]⟩,O 0,O 0,O 0,U 0,.slice none 0 0,O 0,U 0,O 0,O 0,O 0,O 0,.slice none 0 0,.slice none 0 0,.bool false]) [O 0,O 0,O 0,.string ⟨#[]⟩,O 0,O 0,O 0,U 0,.slice none 0 0,O 0,U 0,O 0,O 0,O 0,O 0,.slice none 0 0,.slice none 0 0,.bool false]:=⟨Tryz.zeroValue61,rfl⟩
theorem JR:Zr 72 (.agg #[O 0,O 0,O 0]) [O 0,O 0,O 0]:=⟨Tryz.zeroValue72,rfl⟩
theorem Uy:Zr 74 (.agg #[.string ⟨#[]⟩,O 0,O 0,O 0,O 0,O 0,O 0,U 0]) [.string ⟨#[]⟩,O 0,O 0,O 0,O 0,O 0,O 0,U 0]:=⟨Tryz.zeroValue74,rfl⟩
theorem aP0:Zr 78 (.agg #[O 0,O 0,U 0]) [O 0,O 0,U 0]:=⟨Tryz.zeroValue78,rfl⟩
theorem aP1:Zr 91 (.slice none 0 0) [.slice none 0 0]:=⟨Tryz.zeroValue91,rfl⟩
theorem Uw:Zr 125 (.agg #[.string ⟨#[]⟩,.slice none 0 0,O 0,O 0,O 0]) [.string ⟨#[]⟩,.slice none 0 0,O 0,O 0,O 0]:=⟨Tryz.zeroValue125,rfl⟩
theorem JO:Zr 134 (.agg #[O 0,O 0,O 0,U 0]) [O 0,O 0,O 0,U 0]:=⟨Tryz.zeroValue134,rfl⟩
theorem Hs:Zr 147 (.agg #[U 0,U 0]) [U 0,U 0]:=⟨Tryz.zeroValue147,rfl⟩
theorem WB:Zr 152 (.agg #[O 0]) [O 0]:=⟨Tryz.zeroValue152,rfl⟩
theorem p4:Zr 155 (.agg #[.slice none 0 0,.slice none 0 0]) [.slice none 0 0,.slice none 0 0]:=⟨Tryz.zeroValue155,rfl⟩
theorem WD:Zr 178 (.agg #[.slice none 0 0,.slice none 0 0]) [.slice none 0 0,.slice none 0 0]:=⟨Tryz.zeroValue178,rfl⟩
theorem aPR:Zr 190 (.pointer none) [.pointer none]:=⟨Tryz.zeroValue190,rfl⟩
theorem aPS:Zr 201 (.slice none 0 0) [.slice none 0 0]:=⟨Tryz.zeroValue201,rfl⟩
theorem JP:Zr 228 (.agg #[.slice none 0 0,O 0,O 0,O 0]) [.slice none 0 0,O 0,O 0,O 0]:=⟨Tryz.zeroValue228,rfl⟩
theorem aPT:Zr 230 (.agg #[.string ⟨#[]⟩,O 0,O 0,O 0,O 0,O 0,O 0]) [.string ⟨#[]⟩,O 0,O 0,O 0,O 0,O 0,O 0]:=⟨Tryz.zeroValue230,rfl⟩
theorem en7:aO 7:=aO.mk func7 aT0 aT1
theorem en8:aO 8:=aO.mk func8 aT0 aT1
theorem en9:aO 9:=aO.mk func9 aT0 aT1
theorem Jo:aO 10:=aO.mk func10 aT0 aT1
theorem Ys:aO 11:=aO.mk func11 aT0 aT1
theorem Yx:aO 12:=aO.mk func12 aT0 aT1
theorem Zf:aO 13:=aO.mk func13 aT0 aT1
theorem Zo:aO 14:=aO.mk func14 aT0 aT1
theorem Zs:aO 15:=aO.mk func15 aT0 aT1
theorem aAA:aO 16:=aO.mk func16 aT0 aT1
theorem aAJ:aO 17:=aO.mk func17 aT0 aT1
theorem aAP:aO 18:=aO.mk func18 aT0 aT1
theorem aA1:aO 20:=aO.mk func20 aT0 aT1
theorem aA7:aO 21:=aO.mk func21 aT0 aT1
theorem aBA:aO 22:=aO.mk func22 aT0 aT1
theorem aBB:aO 23:=aO.mk func23 aT0 aT1
theorem aBD:aO 24:=aO.mk func24 aT0 aT1
theorem X9:aO 25:=aO.mk func25 aT0 aT1
theorem Ki:aO 26:=aO.mk func26 aT0 aT1
theorem aBP:aO 27:=aO.mk func27 aT0 aT1
theorem Kj:aO 28:=aO.mk func28 aT0 aT1
theorem aBQ:aO 29:=aO.mk func29 aT0 aT1
theorem aBR:aO 30:=aO.mk func30 aT0 aT1
theorem R0:aO 31:=aO.mk func31 aT0 aT1
theorem aBS:aO 32:=aO.mk func32 aT0 aT1
theorem R1:aO 33:=aO.mk func33 aT0 aT1
theorem aBT:aO 34:=aO.mk func34 aT0 aT1
theorem YB:aO 35:=aO.mk func35 aT0 aT1
theorem Kk:aO 36:=aO.mk func36 aT0 aT1
theorem aBU:aO 37:=aO.mk func37 aT0 aT1
theorem NB:aO 38:=aO.mk func38 aT0 aT1
theorem aBV:aO 40:=aO.mk func40 aT0 aT1
theorem aBW:aO 41:=aO.mk func41 aT0 aT1
theorem aBX:aO 42:=aO.mk func42 aT0 aT1
theorem R2:aO 43:=aO.mk func43 aT0 aT1
theorem aBY:aO 44:=aO.mk func44 aT0 aT1
theorem aBZ:aO 45:=aO.mk func45 aT0 aT1
theorem aB0:aO 46:=aO.mk func46 aT0 aT1
theorem aB1:aO 47:=aO.mk func47 aT0 aT1
theorem aB2:aO 48:=aO.mk func48 aT0 aT1
theorem KJ:aO 49:=aO.mk func49 aT0 aT1
theorem YC:aO 50:=aO.mk func50 aT0 aT1
theorem aB3:aO 51:=aO.mk func51 aT0 aT1
theorem YD:aO 52:=aO.mk func52 aT0 aT1
theorem aB4:aO 53:=aO.mk func53 aT0 aT1
theorem aB5:aO 54:=aO.mk func54 aT0 aT1
theorem YE:aO 55:=aO.mk func55 aT0 aT1
theorem YF:aO 56:=aO.mk func56 aT0 aT1
theorem aB6:aO 57:=aO.mk func57 aT0 aT1
theorem Kl:aO 58:=aO.mk func58 aT0 aT1
theorem Km:aO 59:=aO.mk func59 aT0 aT1
theorem YG:aO 60:=aO.mk func60 aT0 aT1
theorem Ko:aO 61:=aO.mk func61 aT0 aT1
theorem aB7:aO 62:=aO.mk func62 aT0 aT1
theorem YH:aO 63:=aO.mk func63 aT0 aT1
theorem aB8:aO 64:=aO.mk func64 aT0 aT1
theorem aB9:aO 65:=aO.mk func65 aT0 aT1
theorem Kp:aO 66:=aO.mk func66 aT0 aT1
theorem aCA:aO 67:=aO.mk func67 aT0 aT1
theorem aCB:aO 68:=aO.mk func68 aT0 aT1
theorem aCC:aO 69:=aO.mk func69 aT0 aT1
theorem Kq:aO 70:=aO.mk func70 aT0 aT1
theorem FK:aO 71:=aO.mk func71 aT0 aT1
theorem aCD:aO 72:=aO.mk func72 aT0 aT1
theorem Kr:aO 73:=aO.mk func73 aT0 aT1
theorem aCE:aO 74:=aO.mk func74 aT0 aT1
theorem aCF:aO 75:=aO.mk func75 aT0 aT1
theorem YI:aO 76:=aO.mk func76 aT0 aT1
theorem Kt:aO 77:=aO.mk func77 aT0 aT1
theorem aCG:aO 78:=aO.mk func78 aT0 aT1
theorem YJ:aO 79:=aO.mk func79 aT0 aT1
theorem Ku:aO 80:=aO.mk func80 aT0 aT1
theorem R3:aO 81:=aO.mk func81 aT0 aT1
theorem B0:aO 82:=aO.mk func82 aT0 aT1
theorem Kv:aO 83:=aO.mk func83 aT0 aT1
theorem wB:aO 84:=aO.mk func84 aT0 aT1
theorem aCH:aO 85:=aO.mk func85 aT0 aT1
theorem R4:aO 86:=aO.mk func86 aT0 aT1
theorem YK:aO 87:=aO.mk func87 aT0 aT1
theorem Kw:aO 88:=aO.mk func88 aT0 aT1
theorem Kx:aO 89:=aO.mk func89 aT0 aT1
theorem aCI:aO 90:=aO.mk func90 aT0 aT1
theorem aCJ:aO 91:=aO.mk func91 aT0 aT1
theorem YL:aO 92:=aO.mk func92 aT0 aT1
theorem aCK:aO 93:=aO.mk func93 aT0 aT1
theorem Ky:aO 94:=aO.mk func94 aT0 aT1
theorem NC:aO 95:=aO.mk func95 aT0 aT1
theorem aCL:aO 96:=aO.mk func96 aT0 aT1
theorem aCM:aO 97:=aO.mk func97 aT0 aT1
theorem aCN:aO 98:=aO.mk func98 aT0 aT1
theorem aCO:aO 99:=aO.mk func99 aT0 aT1
theorem Yp:aO 100:=aO.mk func100 aT0 aT1
theorem Jp:aO 101:=aO.mk func101 aT0 aT1
theorem XR:aO 102:=aO.mk func102 aT0 aT1
theorem XS:aO 103:=aO.mk func103 aT0 aT1
theorem XU:aO 104:=aO.mk func104 aT0 aT1
theorem BZ:aO 105:=aO.mk func105 aT0 aT1
theorem Yq:aO 106:=aO.mk func106 aT0 aT1
theorem KH:aO 107:=aO.mk func107 aT0 aT1
theorem XV:aO 108:=aO.mk func108 aT0 aT1
theorem Yr:aO 109:=aO.mk func109 aT0 aT1
theorem Yt:aO 110:=aO.mk func110 aT0 aT1
theorem RP:aO 111:=aO.mk func111 aT0 aT1
theorem XW:aO 112:=aO.mk func112 aT0 aT1
theorem HC:aO 113:=aO.mk func113 aT0 aT1
theorem Yu:aO 114:=aO.mk func114 aT0 aT1
theorem Jq:aO 115:=aO.mk func115 aT0 aT1
theorem Jr:aO 116:=aO.mk func116 aT0 aT1
theorem RR:aO 117:=aO.mk func117 aT0 aT1
theorem Yv:aO 118:=aO.mk func118 aT0 aT1
theorem Yw:aO 119:=aO.mk func119 aT0 aT1
theorem Yy:aO 120:=aO.mk func120 aT0 aT1
theorem RS:aO 121:=aO.mk func121 aT0 aT1
theorem Yz:aO 122:=aO.mk func122 aT0 aT1
theorem Za:aO 123:=aO.mk func123 aT0 aT1
theorem Zb:aO 124:=aO.mk func124 aT0 aT1
theorem Zc:aO 125:=aO.mk func125 aT0 aT1
theorem Zd:aO 126:=aO.mk func126 aT0 aT1
theorem XX:aO 127:=aO.mk func127 aT0 aT1
theorem XY:aO 128:=aO.mk func128 aT0 aT1
theorem Ze:aO 129:=aO.mk func129 aT0 aT1
theorem XZ:aO 130:=aO.mk func130 aT0 aT1
theorem Zn:aO 138:=aO.mk func138 aT0 aT1
theorem X0:aO 139:=aO.mk func139 aT0 aT1
theorem Js:aO 140:=aO.mk func140 aT0 aT1
theorem Jt:aO 141:=aO.mk func141 aT0 aT1
theorem Ju:aO 142:=aO.mk func142 aT0 aT1
theorem Zp:aO 143:=aO.mk func143 aT0 aT1
theorem RU:aO 144:=aO.mk func144 aT0 aT1
theorem Jv:aO 145:=aO.mk func145 aT0 aT1
theorem Jw:aO 146:=aO.mk func146 aT0 aT1
theorem X1:aO 147:=aO.mk func147 aT0 aT1
theorem RW:aO 148:=aO.mk func148 aT0 aT1
theorem Zq:aO 149:=aO.mk func149 aT0 aT1
theorem Zt:aO 150:=aO.mk func150 aT0 aT1
theorem Zu:aO 151:=aO.mk func151 aT0 aT1
theorem Zv:aO 152:=aO.mk func152 aT0 aT1
theorem Zw:aO 153:=aO.mk func153 aT0 aT1
theorem X2:aO 154:=aO.mk func154 aT0 aT1
theorem Zx:aO 155:=aO.mk func155 aT0 aT1
theorem X3:aO 156:=aO.mk func156 aT0 aT1
theorem RX:aO 157:=aO.mk func157 aT0 aT1
theorem Zy:aO 158:=aO.mk func158 aT0 aT1
theorem Zz:aO 159:=aO.mk func159 aT0 aT1
theorem aAB:aO 160:=aO.mk func160 aT0 aT1
theorem aAC:aO 161:=aO.mk func161 aT0 aT1
theorem aAD:aO 162:=aO.mk func162 aT0 aT1
theorem aAE:aO 163:=aO.mk func163 aT0 aT1
theorem aAF:aO 164:=aO.mk func164 aT0 aT1
theorem aAG:aO 165:=aO.mk func165 aT0 aT1
theorem X4:aO 166:=aO.mk func166 aT0 aT1
theorem aAH:aO 167:=aO.mk func167 aT0 aT1
theorem aAI:aO 168:=aO.mk func168 aT0 aT1
theorem Jx:aO 169:=aO.mk func169 aT0 aT1
theorem yF:aO 170:=aO.mk func170 aT0 aT1
theorem aAK:aO 171:=aO.mk func171 aT0 aT1
theorem yG:aO 172:=aO.mk func172 aT0 aT1
theorem wA:aO 173:=aO.mk func173 aT0 aT1
theorem aAL:aO 174:=aO.mk func174 aT0 aT1
theorem aAM:aO 175:=aO.mk func175 aT0 aT1
theorem X5:aO 176:=aO.mk func176 aT0 aT1
theorem X6:aO 177:=aO.mk func177 aT0 aT1
theorem aAN:aO 178:=aO.mk func178 aT0 aT1
theorem aAO:aO 179:=aO.mk func179 aT0 aT1
theorem aAQ:aO 180:=aO.mk func180 aT0 aT1
theorem aAR:aO 181:=aO.mk func181 aT0 aT1
theorem aAS:aO 182:=aO.mk func182 aT0 aT1
theorem Jy:aO 183:=aO.mk func183 aT0 aT1
theorem aAT:aO 184:=aO.mk func184 aT0 aT1
theorem aAU:aO 185:=aO.mk func185 aT0 aT1
theorem aAV:aO 186:=aO.mk func186 aT0 aT1
theorem aAW:aO 187:=aO.mk func187 aT0 aT1
theorem Jz:aO 188:=aO.mk func188 aT0 aT1
theorem aAX:aO 189:=aO.mk func189 aT0 aT1
theorem aAY:aO 194:=aO.mk func194 aT0 aT1
theorem aAZ:aO 196:=aO.mk func196 aT0 aT1
theorem aA0:aO 199:=aO.mk func199 aT0 aT1
theorem yH:aO 200:=aO.mk func200 aT0 aT1
theorem aA2:aO 201:=aO.mk func201 aT0 aT1
theorem aA3:aO 202:=aO.mk func202 aT0 aT1
theorem aA4:aO 203:=aO.mk func203 aT0 aT1
theorem Kb:aO 204:=aO.mk func204 aT0 aT1
theorem aA5:aO 205:=aO.mk func205 aT0 aT1
theorem aA6:aO 206:=aO.mk func206 aT0 aT1
theorem Kc:aO 209:=aO.mk func209 aT0 aT1
theorem aA8:aO 211:=aO.mk func211 aT0 aT1
theorem aA9:aO 214:=aO.mk func214 aT0 aT1
theorem Kd:aO 243:=aO.mk func243 aT0 aT1
theorem Ke:aO 244:=aO.mk func244 aT0 aT1
theorem X7:aO 248:=aO.mk func248 aT0 aT1
theorem X8:aO 249:=aO.mk func249 aT0 aT1
theorem Kf:aO 250:=aO.mk func250 aT0 aT1
theorem KI:aO 251:=aO.mk func251 aT0 aT1
theorem aBH:aO 252:=aO.mk func252 aT0 aT1
theorem Kg:aO 253:=aO.mk func253 aT0 aT1
theorem aBI:aO 254:=aO.mk func254 aT0 aT1
theorem aBJ:aO 255:=aO.mk func255 aT0 aT1
theorem RY:aO 256:=aO.mk func256 aT0 aT1
theorem aBK:aO 257:=aO.mk func257 aT0 aT1
theorem RZ:aO 258:=aO.mk func258 aT0 aT1
theorem Kh:aO 259:=aO.mk func259 aT0 aT1
theorem YA:aO 263:=aO.mk func263 aT0 aT1
theorem aBO:aO 264:=aO.mk func264 aT0 aT1
def TW.drew (t:TW):TW:=⟨{ t.w with drawn:=t.w.drawn+1 },t.own⟩
theorem TW.drew_step (t:TW):bQ No t t.drew:=⟨rfl,rfl,rfl,aP9 _,fun _ _ _=>⟨rfl,rfl⟩⟩
theorem dW {t:TW}:bQ No t t.drew:=TW.drew_step t
theorem Bk.drew {t:TW} {b:Nat} {cs:List Value} {ty:TypeId} {g:bB} (h:Bk t b cs ty g):Bk t.drew b cs ty g:=h
theorem Ol:P.follows .mixedOrders=true:=by kernel_rfl
def wZ (Q:Exit→Act→World→Prop):Prop:=∀ch a d v w,Q (.panic ch) (a.put d v) w→Q (.panic ch) a w
def DL (c:i7) (ops:Array Oper) (Q:Exit→Act→World→Prop) (S:World→Prop) (fuel:Nat) (ls:List Bool) (E:eI) (t:TW):Prop:=
 wZ Q→bQ c.T c.t0 t→S t.w→∀a,kD c.n E a→wpAnyH P .any ops Q S fuel ls.toArray a t.w
def chk (ops:Array Oper) (ls:List Bool) (i:Nat):Bool:=Region.noSelect ops&&(Region.free .any ops ls.toArray i&&(Region.ready .any ops ls.toArray).contains i)
theorem DU {ops:Array Oper} {ls:List Bool} {i:Nat} (h:chk ops ls i=true):Region.noSelect ops=true∧Region.free .any ops ls.toArray i=true∧(Region.ready .any ops ls.toArray).contains i=true:=by
 simp only[chk,aQV]at h;exact h
section
variable {c:i7} {ops:Array Oper} {Q Q' : Exit→Act→World→Prop} {S:World→Prop} {fuel:Nat} {ls:List Bool} {E:eI} {t:TW} {id:Nat} {y:Code}
theorem wZ.then_ {K:Act→World→Prop} (h:wZ Q):wZ (Exit.then K Q):=fun ch a d v w hq=>h ch a d v w hq
theorem wZ.blk (h:wZ Q):wZ (Exit.inBlock id Q):=fun ch a d v w hq=>h ch a d v w hq
theorem wZ.body {fn:Func} {R:Ending→World→Prop}:wZ (bodyPost P fn R):=fun ch a d v w hq=>by
 obtain⟨h1,h2⟩:=hq;refine⟨?_,h2⟩;cases d<;>exact h1
theorem WC.dr {l:List Oper} (S:World→Prop) (hQ:wZ Q) (hS:S t.drew.w) (h:DL c l.toArray Q S l.length (List.replicate l.length false) E t.drew):WC c (.region id l.toArray true) Q E t:=fun hs a ha=>by
 refine wp_region_held (S:=S) Ol ?_;have:=h hQ (hs.trans t.drew_step.no) hS a ha;simpa[TW.drew]using this
theorem eK {l:List Oper} (S:World→Prop) (hQ:wZ Q) (hS:S t.drew.w) (h:DL c l.toArray (Exit.then (y.wp P Q) Q) S l.length (List.replicate l.length false) E t.drew):WC c (.seq (.region id l.toArray true) y) Q E t:=.seq (.dr S hQ.then_ hS h)
theorem DL.done (hr:Region.ready .any ops ls.toArray=[]) (h:WQ c Q .normal E t):DL c ops Q S fuel ls E t:=fun _ hs _ a ha=>wpAnyH_done hr (h hs a ha) fuel
theorem Hw {i d:Nat} {op:Op} {ty:TypeId} {pos:String} {af:Array Edge} {g:Option (Nat × Bool)} {v:Value} (hi:ops[i]?=some ⟨some d,op,ty,pos,af,g⟩) (hc:chk ops ls i=true)
  (h:Fr c.n ⟨some d,op,ty,pos,af,g⟩ E v) (k:DL c ops Q S fuel (ls.set i true) ((d,v)::E) t) (hg:gd ops E g=some true:=by rfl) (hd:aQ2 d c.n.n=true:=by rfl) :
  DL c ops Q S (fuel+1) ls E t:=fun hQ aM hS a ha=>by
 refine wpAnyH_take hi (DU hc).1 (DU hc).2.1 (DU hc).2.2 (fun ch a' w' hq=>hQ ch a' _ _ w' hq) (.inl ⟨ha.wanted (o:=⟨some d,op,ty,pos,af,g⟩) hg,fun w _=>h a w ha⟩) hS ?_;have:=k hQ aM hS _ (ha.put (aRU hd) v);simpa using this
theorem DL.h {i d:Nat} {op:Op} {ty:TypeId} {pos:String} {af:Array Edge} {g:Option (Nat × Bool)} {v:Value} (hi:ops[i]?=some ⟨some d,op,ty,pos,af,g⟩) (hc:chk ops ls i=true)
  (h:∀w,S w→Rd c.n ⟨some d,op,ty,pos,af,g⟩ E w v) (k:DL c ops Q S fuel (ls.set i true) ((d,v)::E) t) (hg:gd ops E g=some true:=by rfl) (hd:aQ2 d c.n.n=true:=by rfl) :
  DL c ops Q S (fuel+1) ls E t:=fun hQ aM hS a ha=>by
 refine wpAnyH_take hi (DU hc).1 (DU hc).2.1 (DU hc).2.2 (fun ch a' w' hq=>hQ ch a' _ _ w' hq) (.inl ⟨ha.wanted (o:=⟨some d,op,ty,pos,af,g⟩) hg,fun w hw=>h w hw a ha⟩) hS ?_;have:=k hQ aM hS _ (ha.put (aRU hd) v);simpa using this
theorem DL.s {i d:Nat} {op:Op} {ty:TypeId} {pos:String} {af:Array Edge} {g:Option (Nat × Bool)} (hi:ops[i]?=some ⟨some d,op,ty,pos,af,g⟩) (hc:chk ops ls i=true)
  (k:DL c ops Q S fuel (ls.set i true) ((d,undef)::E) t) (hg:gd ops E g=some false:=by rfl) (hd:aQ2 d c.n.n=true:=by rfl) :
  DL c ops Q S (fuel+1) ls E t:=fun hQ aM hS a ha=>by
 refine wpAnyH_take hi (DU hc).1 (DU hc).2.1 (DU hc).2.2 (fun ch a' w' hq=>hQ ch a' _ _ w' hq) (.inr ⟨ha.wanted (o:=⟨some d,op,ty,pos,af,g⟩) hg,Z⟩) hS ?_;have:=k hQ aM hS _ (ha.put (aRU hd) undef);simpa using this
def cO (c:i7) (ops:Array Oper) (Q:Exit→Act→World→Prop) (S:World→Prop) (fuel:Nat) (ls:List Bool) (E:eI) (t:TW) (i:Nat):Prop:=
 wZ Q→bQ c.T c.t0 t→S t.w→∀a,kD c.n E a→wpOp P ops Q i (fun a' w' => S w' ∧ wpAnyH P .any ops Q S fuel (ls.toArray.setIfInBounds i true) a' w') a t.w
theorem DL.e1 {i:Nat} (hr:Region.ready .any ops ls.toArray=[i]) (h:cO c ops Q S fuel ls E t i):DL c ops Q S (fuel+1) ls E t:=fun hQ aM hS a ha=>
 wpAnyH_all hr aT4 (fun j hj=>by
  obtain rfl:j=i:=by simpa using hj
  exact h hQ aM hS a ha)
theorem gV {i j:Nat} (hr:Region.ready .any ops ls.toArray=[i,j]) (h:cO c ops Q S fuel ls E t i) (h' : cO c ops Q S fuel ls E t j):DL c ops Q S (fuel+1) ls E t:=fun hQ aM hS a ha=>
 wpAnyH_all hr aT4 (fun k hk=>by
  have F3 : k=i∨k=j:=by simpa using hk
  rcases F3 with rfl|rfl
  ·exact h hQ aM hS a ha
  ·exact h' hQ aM hS a ha)
theorem WP {i j k:Nat} (hr:Region.ready .any ops ls.toArray=[i,j,k]) (h:cO c ops Q S fuel ls E t i) (h' : cO c ops Q S fuel ls E t j) (h'' : cO c ops Q S fuel ls E t k):DL c ops Q S (fuel+1) ls E t:=fun hQ aM hS a ha=>
 wpAnyH_all hr aT4 (fun m hm=>by
  have tX : m=i∨m=j∨m=k:=by simpa using hm
  rcases tX with rfl|rfl|rfl
  ·exact h hQ aM hS a ha
  ·exact h' hQ aM hS a ha
  ·exact h'' hQ aM hS a ha)
section
variable {i d:Nat} {op:Op} {ty:TypeId} {pos:String} {af:Array Edge} {g:Option (Nat × Bool)} {v:Value}
theorem cO.r (hi:ops[i]?=some ⟨some d,op,ty,pos,af,g⟩) (h:Rd c.n ⟨some d,op,ty,pos,af,g⟩ E t.w v) (k:DL c ops Q S fuel (ls.set i true) ((d,v)::E) t) (hg:gd ops E g=some true:=by rfl) (hd:aQ2 d c.n.n=true:=by rfl):cO c ops Q S fuel ls E t i:=fun hQ aM hS a ha=>by
 unfold wpOp;rw[hi];simp only[ha.wanted (o:=⟨some d,op,ty,pos,af,g⟩) hg,if_true,Oper.wp,h a ha,Oper.upon];refine .inl ⟨hS,?_⟩;have:=k hQ aM hS _ (ha.put (aRU hd) v);simpa using this
theorem eH {Φ:Value→TW→Prop} (hi:ops[i]?=some ⟨some d,op,ty,pos,af,g⟩) (h:Ef c ⟨some d,op,ty,pos,af,g⟩ E t Φ) (hS:∀v t', Φ v t' → S t'.w) (k:∀v t', Φ v t' → DL c ops Q S fuel (ls.set i true) ((d,v)::E) t')
  (hg:gd ops E g=some true:=by rfl) (hd:aQ2 d c.n.n=true:=by rfl):cO c ops Q S fuel ls E t i:=fun hQ aM _ a ha=>by
 unfold wpOp;rw[hi];simp only[ha.wanted (o:=⟨some d,op,ty,pos,af,g⟩) hg,if_true];refine .inl (h.out aM a ha _ _ fun v t' Dd hp=>⟨hS v t' hp,?_⟩);have:=k v t' hp hQ Dd (hS v t' hp) _ (ha.put (aRU hd) v);simpa using this
theorem cO.e0 {Φ:Value→TW→Prop} (hi:ops[i]?=some ⟨none,op,ty,pos,af,g⟩) (h:Ef c ⟨none,op,ty,pos,af,g⟩ E t Φ) (hS:∀v t', Φ v t' → S t'.w) (k:∀v t', Φ v t' → DL c ops Q S fuel (ls.set i true) E t')
  (hg:gd ops E g=some true:=by rfl):cO c ops Q S fuel ls E t i:=fun hQ aM _ a ha=>by
 unfold wpOp;rw[hi];simp only[ha.wanted (o:=⟨none,op,ty,pos,af,g⟩) hg,if_true];refine .inl (h.out aM a ha _ _ fun v t' Dd hp=>⟨hS v t' hp,?_⟩);have:=k v t' hp hQ Dd (hS v t' hp) _ ha;simpa[Act.put]using this
end
theorem C0 {s:Nat} {v:Value} (hv:lk E s=some v):∀k u,lk ((s,v)::E) k=some u→lk E k=some u:=fun k u hk=>by
 cases hb:Nat.beq s k
 ·simp only[lk,hb,cond_false]at hk;exact hk
 ·simp only[lk,hb,cond_true]at hk;obtain rfl:=aTH hb;rw[hv,hk]
theorem bD {x:Code} {s:Nat} {b:Bool} (hl:lk E s=some (.bool b)) (ht:b=true→WC c x Q ((s,.bool true)::E) t) (hf:b=false→WC c y Q ((s,.bool false)::E) t):WC c (.cond (.tmp s) x y) Q E t:=by
 refine WC.cond (b:=b) hl (fun e=>?_) (fun e=>?_)
 ·subst e;exact fun hs a ha=>ht Z hs a (ha.weak (C0 hl))
 subst e;exact fun hs a ha=>hf Z hs a (ha.weak (C0 hl))
theorem oB (s:Nat) {b:Bool} (hl:lk E s=some (.bool b)) (ht:b=true→DL c ops Q S fuel ls ((s,.bool true)::E) t) (hf:b=false→DL c ops Q S fuel ls ((s,.bool false)::E) t):DL c ops Q S fuel ls E t:=by
 cases b
 ·exact fun hQ hs hS a ha=>hf Z hQ hs hS a (ha.weak (C0 hl))
 exact fun hQ hs hS a ha=>ht Z hQ hs hS a (ha.weak (C0 hl))
theorem DL.re (s:Nat) {v v' : Value} (hl:lk E s=some v) (e:v=v') (h:DL c ops Q S fuel ls ((s,v')::E) t):DL c ops Q S fuel ls E t:=fun hQ hs hS a ha=>by
 subst e;exact h hQ hs hS a (ha.weak (C0 hl))
theorem aP2 (E' : eI) (hE:yB E' E) (h:DL c ops Q S fuel ls E' t):DL c ops Q S fuel ls E t:=fun hQ hs hS a ha=>h hQ hs hS a (ha.weak hE.get)
def Jn {σ:Type} (c:i7) (I:σ→TW→Prop) (F:σ→eI):Act→World→Prop:=fun a w=>∃s t', t'.w=w∧bQ c.T c.t0 t' ∧ I s t' ∧ kD c.n (F s) a
theorem nJ {σ:Type} {x:Code} (I:σ→TW→Prop) (F:σ→eI) (h1:WC c x (Exit.then (Jn c I F) Q) E t) (h2:∀s t', I s t' → WC c y Q (F s) t'):WC c (.seq x y) Q E t:=fun hs a ha=>by
 refine wp_seq (wp_mono (h1 hs a ha) fun e a' w' hq=>?_)
 cases e with
 | normal=>
  obtain⟨s,t', rfl,fM, hI,hH⟩:=hq;exact h2 s t' hI fM a' hH
 | exit id=>exact hq
 | goto l=>exact hq
 | ret=>exact hq
 | panic ch=>exact hq
 | outgrown=>exact hq
theorem g7 {σ:Type} {I:σ→TW→Prop} {F:σ→eI} (s:σ) (hE:yB (F s) E) (hI:I s t):WQ c (Exit.then (Jn c I F) Q) .normal E t:=fun hs a ha=>⟨s,t,rfl,hs,hI,ha.weak hE.get⟩
end
section
variable {c:i7} {ops:Array Oper} {Q:Exit→Act→World→Prop} {S:World→Prop} {fuel:Nat} {ls:List Bool} {E:eI} {t:TW} {op:Op} {ty:TypeId} {pos:String} {af:Array Edge} {g:Option (Nat × Bool)} {v:Value} {d:Nat} {x:Operand}
theorem aE (i:Nat) (hi:ops[i]?=some ⟨some d,op,ty,pos,af,g⟩) (h:Fr c.n ⟨some d,op,ty,pos,af,g⟩ E v) (k:DL c ops Q S fuel (ls.set i true) ((d,v)::E) t) (hc:chk ops ls i=true:=by kernel_rfl) (hg:gd ops E g=some true:=by rfl) (hd:aQ2 d c.n.n=true:=by rfl):DL c ops Q S (fuel+1) ls E t:=Hw hi hc h k hg hd
theorem cD (i:Nat) (hi:ops[i]?=some ⟨some d,op,ty,pos,af,g⟩) (h:∀w,S w→Rd c.n ⟨some d,op,ty,pos,af,g⟩ E w v) (k:DL c ops Q S fuel (ls.set i true) ((d,v)::E) t) (hc:chk ops ls i=true:=by kernel_rfl) (hg:gd ops E g=some true:=by rfl) (hd:aQ2 d c.n.n=true:=by rfl):DL c ops Q S (fuel+1) ls E t:=DL.h hi hc h k hg hd
theorem aX (i:Nat) (hi:ops[i]?=some ⟨some d,op,ty,pos,af,g⟩) (k:DL c ops Q S fuel (ls.set i true) ((d,undef)::E) t) (hc:chk ops ls i=true:=by kernel_rfl) (hg:gd ops E g=some false:=by rfl) (hd:aQ2 d c.n.n=true:=by rfl):DL c ops Q S (fuel+1) ls E t:=DL.s hi hc k hg hd
theorem bH {Φ:Value→TW→Prop} (i:Nat) (hi:ops[i]?=some ⟨some d,op,ty,pos,af,g⟩) (h:Ef c ⟨some d,op,ty,pos,af,g⟩ E t Φ) (hS:∀v t', Φ v t' → S t'.w) (k:∀v t', Φ v t' → DL c ops Q S fuel (ls.set i true) ((d,v)::E) t') (hr:Region.ready .any ops ls.toArray=[i]:=by kernel_rfl) (hg:gd ops E g=some true:=by rfl) (hd:aQ2 d c.n.n=true:=by rfl):DL c ops Q S (fuel+1) ls E t:=DL.e1 hr (eH hi h hS k hg hd)
theorem dY {Φ:Value→TW→Prop} (i:Nat) (hi:ops[i]?=some ⟨none,op,ty,pos,af,g⟩) (h:Ef c ⟨none,op,ty,pos,af,g⟩ E t Φ) (hS:∀v t', Φ v t' → S t'.w) (k:∀v t', Φ v t' → DL c ops Q S fuel (ls.set i true) E t') (hr:Region.ready .any ops ls.toArray=[i]:=by kernel_rfl) (hg:gd ops E g=some true:=by rfl):DL c ops Q S (fuel+1) ls E t:=DL.e1 hr (cO.e0 hi h hS k hg)
theorem cR (i:Nat) (hi:ops[i]?=some ⟨some d,op,ty,pos,af,g⟩) (h:Rd c.n ⟨some d,op,ty,pos,af,g⟩ E t.w v) (k:DL c ops Q S fuel (ls.set i true) ((d,v)::E) t) (hr:Region.ready .any ops ls.toArray=[i]:=by kernel_rfl) (hg:gd ops E g=some true:=by rfl) (hd:aQ2 d c.n.n=true:=by rfl):DL c ops Q S (fuel+1) ls E t:=DL.e1 hr (cO.r hi h k hg hd)
theorem DL.m (i:Nat) (hi:ops[i]?=some ⟨some d,.move x,ty,pos,af,g⟩) (h:ev E x=some v) (k:DL c ops Q S fuel (ls.set i true) ((d,v)::E) t) (hc:chk ops ls i=true:=by kernel_rfl) (hg:gd ops E g=some true:=by rfl) (hd:aQ2 d c.n.n=true:=by rfl):DL c ops Q S (fuel+1) ls E t:=Hw hi hc (x6 h) k hg hd
theorem cK (h:WQ c Q .normal E t) (hr:Region.ready .any ops ls.toArray=[]:=by kernel_rfl):DL c ops Q S fuel ls E t:=DL.done hr h
end
structure Kn (α:Type) where
 k:Nat
 R:TW→α→List Value→Prop
 len:∀{t x c},R t x c→c.length=k
 one:∀{t x c},R t x c→∀u∈c,u.oneCell' = true
 stp:∀{T t t' x c},bQ T t t' → ¬T .fz→R t x c→R t' x c
def uS {α:Type} (k:Nat) (enc:α→List Value) (hk:∀x,(enc x).length=k) (h1:∀x,∀u∈enc x,u.oneCell' = true):Kn α where
 k:=k
 R:=fun _ x c=>c=enc x
 len:=by rintro _ x _ rfl;exact hk x
 one:=by rintro _ x _ rfl;exact h1 x
 stp:=fun _ _ h=>h
def fS (q:IntKind):Kn Int:=uS 1 (fun x=>[.int q x]) (fun _=>rfl) (fun x u hu=>by rw[aQR.1 hu];rfl)
def dJ:Kn ByteArray:=uS 1 (fun x=>[.string x]) (fun _=>rfl) (fun x u hu=>by rw[aQR.1 hu];rfl)
def fJ (cs:List Value) (k i:Nat):List Value:=(cs.drop (i*k)).take k
theorem aMU {cs:List Value} {k i j:Nat} {v:Value} (h:(fJ cs k i)[j]?=some v):cs[i*k+j]?=some v:=by
 unfold fJ at h;rw[aQ9]at h;split at h
 ·simpa using h
 cases h
section
variable {α:Type} {d:Kn α} {t t' : TW} {T:bB→Prop} {v:Value} {xs:List α}
def Sl (t:TW) (d:Kn α) (v:Value) (xs:List α):Prop:=
 ∃A cap,v=.slice A xs.length cap∧xs.length≤cap∧(xs≠[]→∃b o,A=some ⟨b,o,none⟩∧b<t.w.heap.size∧t.own b=.fz∧∀i x,xs[i]?=some x→∃c,d.R t x c∧At t.w b (o+i*d.k) c)
theorem At.of_block {w w' : World} {b o:Nat} {c:List Value} (h:At w b o c) (hb:w'.heap[b]?=w.heap[b]?):At w' b o c:=fun j v hj=>by
 have:=h j v hj;rw[←this];simp only[World.cell?,hb]
theorem Sl.step (h:Sl t d v xs) (s:bQ T t t') (hT:¬T .fz):Sl t' d v xs:=by
 obtain⟨A,cap,e,hc,hr⟩:=h;refine⟨A,cap,e,hc,fun bR=>?_⟩;obtain⟨b,o,ea,aW,hf,hx⟩:=hr bR;obtain⟨k1,k2⟩:=s.keep b aW (by rw[hf];exact hT);refine⟨b,o,ea,aSI aW s.size,k1.trans hf,fun i x hi=>?_⟩;obtain⟨c,hR,hA⟩:=hx i x hi;exact⟨c,d.stp s hT hR,hA.of_block k2⟩
theorem Sl.n (h:Sl t d v xs) (s:bQ T t t') (hT:¬T .fz:=by first|exact id|nofun|(rintro (h|h)<;>cases h)|(rintro (h|h|h)<;>cases h)):Sl t' d v xs:=h.step s hT
theorem Sl.nil (t:TW) (d:Kn α) (A:Option Addr) (cap:Nat):Sl t d (.slice A 0 cap) []:=⟨A,cap,rfl,aQC _,fun h=>absurd rfl h⟩
theorem Sl.at_ (h:Sl t d v xs) {i:Nat} {x:α} (hi:xs[i]?=some x):∃b o cap c,v=.slice (some ⟨b,o,none⟩) xs.length cap∧xs.length≤cap∧d.R t x c∧At t.w b (o+i*d.k) c∧b<t.w.heap.size∧t.own b=.fz:=by
 obtain⟨A,cap,e,hc,hr⟩:=h;obtain⟨b,o,rfl,aW,hf,hx⟩:=hr (by rintro rfl;cases hi);obtain⟨c,hR,hA⟩:=hx i x hi;exact⟨b,o,cap,c,e,hc,hR,hA,aW,hf⟩
theorem Sl.form (h:Sl t d v xs):∃A cap,v=.slice A xs.length cap∧xs.length≤cap:=by
 obtain⟨A,cap,e,hc,_⟩:=h;exact⟨A,cap,e,hc⟩
theorem At.step {b o:Nat} {c:List Value} (h:At t.w b o c) (s:bQ T t t') (aW:b<t.w.heap.size) (hT:¬T (t.own b)):At t'.w b o c:=h.of_block (s.keep b aW hT).2
end
section
variable {α:Type} {d:Kn α} {t t' : TW} {T:bB→Prop} {g:bB} {B e:Nat} {v:Value} {xs:List α}
structure aZ (t:TW) (g:bB) (B e:Nat) (d:Kn α) (v:Value) (xs:List α):Prop where
 out:∃inner:List Value,t.w.ownsRow B e d.k v xs.length inner∧(∀b,v.ownBlock=some b→t.own b=g)∧∀i x,xs[i]?=some x→d.R t x (fJ inner d.k i)
theorem aZ.nil (t:TW) (g:bB) (B e:Nat) (d:Kn α):aZ t g B e d (.slice none 0 0) []:=⟨[],World.ownsRow_nil _ _ _ _,fun b hb=>by simp[Value.ownBlock]at hb,fun i x h=>by cases h⟩
theorem aZ.step (h:aZ t g B e d v xs) (s:bQ T t t') (hg:¬T g) (hT:¬T .fz):aZ t' g B e d v xs:=by
 obtain⟨inner,ho,ht,hx⟩:=h
 have hk:∀b,v.ownBlock=some b→t'.own b=g∧t'.w.heap[b]?=t.w.heap[b]?:=fun b hb=>by
  obtain⟨k1,k2⟩:=s.keep b (ho.lt b hb).2 (by rw[ht b hb];exact hg);exact⟨k1.trans (ht b hb),k2⟩
 refine⟨inner,⟨ho.1,?_⟩,fun b hb=>(hk b hb).1,fun i x hi=>d.stp s hT (hx i x hi)⟩;rcases ho.2 with hn|⟨q,cap,cur,rfl,hB,hq,rest⟩
 ·exact .inl hn
 exact .inr ⟨q,cap,cur,Z,hB,(hk q (by simp[Value.ownBlock])).2.trans hq,rest⟩
theorem aZ.n (h:aZ t g B e d v xs) (s:bQ T t t') (hg:¬T g:=by first|exact id|nofun|(rintro (h|h)<;>cases h)|(rintro (h|h|h)<;>cases h)) (hT:¬T .fz:=by first|exact id|nofun|(rintro (h|h)<;>cases h)|(rintro (h|h|h)<;>cases h)):aZ t' g B e d v xs:=h.step s hg hT
theorem aZ.form (h:aZ t g B e d v xs):∃A cap,v=.slice A xs.length cap∧xs.length≤cap:=by
 obtain⟨inner,ho,_⟩:=h;rcases ho.2 with ⟨rfl,hn⟩|⟨q,cap,cur,rfl,hB,hq,hc,_⟩
 ·exact⟨none,0,by rw[hn],by omega⟩
 exact⟨_,cap,Z,hc⟩
theorem aZ.block (h:aZ t g B e d v xs) (bR:xs≠[]):∃b cap cs,v=.slice (some ⟨b,0,none⟩) xs.length cap∧B≤b∧Bk t b cs e g∧xs.length≤cap∧cs.length=cap*d.k∧cap≤maxLen∧∀i x,xs[i]?=some x→d.R t x (fJ cs d.k i):=by
 obtain⟨inner,ho,ht,hx⟩:=h;rcases ho.2 with ⟨rfl,hn⟩|⟨q,cap,cur,rfl,hB,hq,hc,hm,hs,pD⟩
 ·exact absurd (aR6 hn) bR
 refine⟨q,cap,cur.toList,Z,hB,⟨by simpa using hq,ht q (by simp[Value.ownBlock])⟩,hc,by simpa using hs,hm,fun i x hi=>?_⟩;have:=hx i x hi;have aW:=(aQG.1 hi).1
 have e:fJ inner d.k i=fJ cur.toList d.k i:=by
  unfold fJ;rw[←pD,aTC,aSG];congr 1;have:(i+1)*d.k≤xs.length*d.k:=aQM _ aW;rw[aQ0]at this;omega
 rw[←e];exact this
theorem aZ.of_block {b cap:Nat} {cs:List Value} (hb:Bk t b cs e g) (hB:B≤b) (hc:xs.length≤cap) (hs:cs.length=cap*d.k) (hm:cap≤maxLen) (hx:∀i x,xs[i]?=some x→d.R t x (fJ cs d.k i)):aZ t g B e d (.slice (some ⟨b,0,none⟩) xs.length cap) xs:=by
 refine⟨cs.take (xs.length*d.k),⟨?_,.inr ⟨b,cap,cs.toArray,Z,hB,hb.1,hc,hm,by simpa using hs,by simp⟩⟩,fun q hq=>?_,fun i x hi=>?_⟩
 ·rw[aQD,hs];exact aQ3 (aQM _ hc)
 ·simp[Value.ownBlock]at hq;subst hq;exact hb.2
 have aW:=(aQG.1 hi).1
 have e:fJ (cs.take (xs.length*d.k)) d.k i=fJ cs d.k i:=by
  unfold fJ;rw[aTC,aSG];congr 1;have:(i+1)*d.k≤xs.length*d.k:=aQM _ aW;rw[aQ0]at this;omega
 rw[e];exact hx i x hi
theorem aZ.mono {B' : Nat} (h:aZ t g B e d v xs) (hB:B' ≤ B):aZ t g B' e d v xs:=by
 obtain⟨inner,ho,ht,hx⟩:=h;refine⟨inner,⟨ho.1,?_⟩,ht,hx⟩;rcases ho.2 with hn|⟨q,cap,cur,rfl,hb,rest⟩
 ·exact .inl hn
 exact .inr ⟨q,cap,cur,Z,aP8 hB hb,rest⟩
theorem Ge {b:Nat} {cs:List Value} {k i:Nat} (hb:Bk t b cs e g):At t.w b (i*k) (fJ cs k i):=fun j v hj=>hb.cell (aMU hj)
theorem aZ.at_ (h:aZ t g B e d v xs) {i:Nat} {x:α} (hi:xs[i]?=some x):∃b cap c,v=.slice (some ⟨b,0,none⟩) xs.length cap∧xs.length≤cap∧d.R t x c∧At t.w b (i*d.k) c∧b<t.w.heap.size∧t.own b=g:=by
 obtain⟨b,cap,cs,rfl,_,hb,hc,hs,_,hx⟩:=h.block (by rintro rfl;cases hi);exact⟨b,cap,_,Z,hc,hx i x hi,Ge hb,hb.lt,hb.2⟩
def aP3 (t:TW) (b:Nat) (g:bB):TW:=⟨t.w,fun k=>if k=b then g else t.own k⟩
def TW.tagv (t:TW) (v:Value) (g:bB):TW:=⟨t.w,fun k=>if v.ownBlock=some k then g else t.own k⟩
theorem TW.tagv_step (t:TW) {v:Value} {g g' : bB} (h:∀b,v.ownBlock=some b→t.own b=g):bQ (fun q=>q=g) t (t.tagv v g'):=
 ⟨rfl,rfl,rfl,aP9 _,fun k hk hn=>⟨by
  simp only[TW.tagv];rw[if_neg];intro e
  exact hn (h k e),Z⟩⟩
theorem aZ.tags (h:aZ t g B e d v xs):∀b,v.ownBlock=some b→t.own b=g:=by
 obtain⟨inner,ho,ht,hx⟩:=h;exact ht
theorem aZ.base (h:aZ t g B e d v xs):∀b,v.ownBlock=some b→B≤b:=by
 obtain⟨inner,ho,ht,hx⟩:=h;exact fun b hb=>(ho.lt b hb).1
theorem aZ.freeze (h:aZ t g B e d v xs) (hg:g≠.fz):Sl (t.tagv v .fz) d v xs:=by
 have hs:=t.tagv_step (g' := .fz) h.tags;obtain⟨A,cap,rfl,hc⟩:=h.form;refine⟨A,cap,Z,hc,fun bR=>?_⟩;obtain⟨b,cap', cs,e1,hB,hb,_,hl,_,hx⟩:=h.block bR
 injection e1 with e1 e2 e3
 subst e1;refine⟨b,0,Z,hb.lt,by simp[TW.tagv,Value.ownBlock],fun i x hi=>⟨_,d.stp hs (fun e=>hg e.symm) (hx i x hi),?_⟩⟩;rw[aQF];exact Ge (t:=t) hb
end
section
variable {c:i7} {ops:Array Oper} {Q:Exit→Act→World→Prop} {l:List Oper} {E:eI} {t:TW} {x:Code} {e:Exit}
theorem Hf {t0:TW} {T:bB→Prop} {v:Value} (g' : bB) (hb:(∀b,v.ownBlock=some b→t0.w.heap.size≤b)∨∃g,T g∧∀b,v.ownBlock=some b→t.own b=g) (s:bQ T t0 t):bQ T t0 (t.tagv v g'):=
 ⟨s.os,s.tape,s.output,s.size,fun k hk hn=>by
  obtain⟨h1,h2⟩:=s.keep k hk hn;refine⟨?_,h2⟩;simp only[TW.tagv];rw[if_neg]
  ·exact h1
  ·intro ev;rcases hb with hb|⟨g,hg,hb⟩
   ·have:=hb k ev;omega
   ·rw[hb k ev]at h1;rw[←h1]at hn
    exact hn hg⟩
theorem WQ.tag (v:Value) (g' : bB) (hb:(∀b,v.ownBlock=some b→c.t0.w.heap.size≤b)∨∃g,c.T g∧∀b,v.ownBlock=some b→t.own b=g) (h:WQ c Q e E (t.tagv v g')):WQ c Q e E t:=fun hs a ha=>h (Hf g' hb hs) a ha
theorem WC.tag (v:Value) (g' : bB) (hb:(∀b,v.ownBlock=some b→c.t0.w.heap.size≤b)∨∃g,c.T g∧∀b,v.ownBlock=some b→t.own b=g) (h:WC c x Q E (t.tagv v g')):WC c x Q E t:=fun hs a ha=>h (Hf g' hb hs) a ha
theorem WL.tag (v:Value) (g' : bB) (hb:(∀b,v.ownBlock=some b→c.t0.w.heap.size≤b)∨∃g,c.T g∧∀b,v.ownBlock=some b→t.own b=g) (h:WL c ops Q l E (t.tagv v g')):WL c ops Q l E t:=fun hs a ha=>h (Hf g' hb hs) a ha
end
section
variable {n:Sz} {c:i7} {E:eI} {dd:Option Nat} {ty:TypeId} {pos:String} {af:Array Edge} {gd:Option (Nat × Bool)} {x y:Operand} {v:Value} {t:TW}
theorem Ph {a:Act} (ha:kD n E a):∀{ps:List (Nat × Operand)} {vs:List (Nat × Value)},ps.map (fun p=>(p.1,(ev E p.2)))=vs.map (fun p=>(p.1,some p.2))→ps.map (fun p=>(p.1,a.eval p.2))=vs
 | [],[],_=>rfl
 | [],_::_,h=>by cases h
 | _::_,[],h=>by cases h
 | p::ps,v::vs,h=>by
  simp only[aRC,List.cons.injEq,aSX]at h;rw[aRC,Ph ha h.2,h.1.1,ha.ev h.1.2]
theorem cP {q len e:Nat} (gt:bB) {ps:List (Nat × Operand)} {vs:List (Nat × Value)} {cs:List Value} (hp:ps.map (fun p=>(p.1,(ev E p.2)))=vs.map (fun p=>(p.1,some p.2)))
  (hb:∀w:World,(Instr.buildSlice q len vs.toArray).run P w=.ok (.slice (some ⟨w.heap.size,0,none⟩) len len) (w.alloc (.cells cs.toArray e))) :
  Ef c ⟨dd,.buildSlice q len ps.toArray,ty,pos,af,gd⟩ E t (BP c t cs e gt fun b=>.slice (some ⟨b,0,none⟩) len len):=.mk fun hs a ha K Q hk=>by
 have hv:=Ph ha hp;unfold Oper.wp
 have:(execOp a.eval ⟨dd,.buildSlice q len ps.toArray,ty,pos,af,gd⟩).run P t.w=.ok (.value (.slice (some ⟨t.w.heap.size,0,none⟩) len len)) (t.alloc cs e gt).w:=by
  simp only[execOp,aRP];rw[show (List.map (fun x=>match x with|(i,x)=>(i,a.eval x)) ps)=vs from hv,Sem.run_bind,hb t.w];rfl
 rw[this];exact hk _ _ (hs.trans (t.alloc_step cs e gt).no) (QL hs cs e gt fun b=>.slice (some ⟨b,0,none⟩) len len)
theorem wY {q e k len cap:Nat} {A:Option Addr} {kk:IntKind} {i:Int} (h:ev E x=some (.slice A len cap)) (hi:ev E y=some (.int kk i)) (ht:iQ q e k) (h0:0≤i) (h1:i≤cap) :
  Fr n ⟨dd,.slice q x none (some y) none,ty,pos,af,gd⟩ E (.slice A i.toNat cap):=fun a w ha=>by
 have hh:(Instr.sliceBounds true len cap none (some (.int kk i)) none).run P w=.ok (0,i.toNat,cap) w:=by
  simp[Instr.sliceBounds,Instr.sliceBound,asIntOf,h0,h1]
 simp only[execOp,ha.ev h,ha.ev hi,Option.map_none,aRV,Instr.sliceAt,Instr.slice,Sem.run_bind,iE ht.1,Result.andThen_ok,hh,ht.2.run,Sem.run_pure];congr 3;by_cases hc:cap=0
 ·simp[hc]
 ·rw[if_neg hc];cases A<;>simp[Addr.add]
theorem BN {q e k len cap:Nat} {A:Option Addr} {kk:IntKind} {i:Int} (h:ev E x=some (.slice A len cap)) (hi:ev E y=some (.int kk i)) (ht:iQ q e k) (h0:0≤i) (h1:i≤len) :
  Fr n ⟨dd,.slice q x (some y) none none,ty,pos,af,gd⟩ E (.slice (if cap=i.toNat then A else A.map (·.add (i.toNat*k))) (len-i.toNat) (cap-i.toNat)):=fun a w ha=>by
 have hh:(Instr.sliceBounds true len cap (some (.int kk i)) none none).run P w=.ok (i.toNat,len,cap) w:=by
  simp[Instr.sliceBounds,Instr.sliceBound,asIntOf,h0,h1]
 simp only[execOp,ha.ev h,ha.ev hi,Option.map_none,aRV,Instr.sliceAt,Instr.slice,Sem.run_bind,iE ht.1,Result.andThen_ok,hh,ht.2.run,Sem.run_pure]
end
section
variable {α:Type} {dk:Kn α} {c:i7} {E:eI} {dd:Option Nat} {ty:TypeId} {pos:String} {af:Array Edge} {gd:Option (Nat × Bool)} {x y:Operand} {v:Value} {t:TW} {g:bB} {B e:Nat} {xs:List α}
structure El (e k bytes:Nat) (z:Value):Prop where
 h:(P.info? e).map (fun i=>(i.zero,i.size,i.bytes))=some (some z,k,bytes)
 c:z.cells.size=k
theorem y5 {q:Option TypeInfo} {z:Value} {k bytes:Nat} (h:q.map (fun i=>(i.zero,i.size,i.bytes))=some (some z,k,bytes)) :
  q=some (q.getD default)∧(q.getD default).zero=some z∧(q.getD default).size=k∧(q.getD default).bytes=bytes:=by
 cases q with
 | none=>cases h
 | some i=>
  simp at h;exact⟨Z,h.1,h.2.1,h.2.2⟩
def lZ (dk:Kn α) (t:TW) (ys:List α) (news:List Value):Prop:=news.length=ys.length*dk.k∧∀i y,ys[i]?=some y→dk.R t y (fJ news dk.k i)
theorem zW {y:α} {c:List Value} (h:dk.R t y c):lZ dk t [y] c:=⟨by simp[dk.len h],fun i z hi=>by
 cases i with
 | zero=>
  simp at hi;subst hi
  have:fJ c dk.k 0=c:=by
   unfold fJ;simp only[aSK,List.drop_zero];rw[aR0 (by rw[dk.len h];exact aP9 _)]
  rw[this];exact h
 | succ i=>simp at hi⟩
theorem aG9 {cs:List Value} {k n:Nat} (hl:cs.length=n*k) {u:Value} (h:u∈cs):∃i,i<n∧u∈fJ cs k i:=by
 obtain⟨j,hj,rfl⟩:=aRT h
 have hk:0<k:=by
  rcases Nat.eq_zero_or_pos k with h0|h0
  ·subst h0;simp at hl;subst hl;simp at hj
  exact h0
 refine⟨j / k,?_,?_⟩
 ·rw[hl,Nat.mul_comm]at hj;exact Nat.div_lt_of_lt_mul hj
 unfold fJ;have hm:j%k<k:=Nat.mod_lt _ hk
 have hd:j / k*k+j%k=j:=by
  rw[Nat.mul_comm];exact Nat.div_add_mod j k
 apply List.mem_iff_getElem?.2;refine⟨j%k,?_⟩;rw[aQ9,if_pos hm,aRM,hd];exact aQA hj
theorem lZ.one {ys:List α} {news:List Value} (h:lZ dk t ys news):∀u∈news,u.oneCell' = true:=fun u hu=>by
 obtain⟨i,hi,hm⟩:=aG9 h.1 hu;exact dk.one (h.2 i _ (aQA hi)) u hm
theorem Gd {as_ bs:List Value} {k i n:Nat} (hl:as_.length=n*k):fJ (as_++bs) k i=if i<n then fJ as_ k i else fJ bs k (i-n):=by
 unfold fJ;split
 ·rename_i aW;have:(i+1)*k≤n*k:=aQM _ aW;rw[aQ0]at this;rw[List.drop_append_of_le_length aTZ,aST (by rw[aQT];omega)]
 rename_i dA;have hk:n*k≤i*k:=aQM _ aTZ;rw[List.drop_append,aS2 aTZ,aRB,hl,Nat.sub_mul]
theorem lZ.step {T:bB→Prop} {t' : TW} {ys:List α} {news:List Value} (h:lZ dk t ys news) (s:bQ T t t') (hT:¬T .fz):lZ dk t' ys news:=⟨h.1,fun i y hi=>dk.stp s hT (h.2 i y hi)⟩
theorem lZ.n {T:bB→Prop} {t' : TW} {ys:List α} {news:List Value} (h:lZ dk t ys news) (s:bQ T t t') (hT:¬T .fz:=by first|exact id|nofun|(rintro (h|h)<;>cases h)|(rintro (h|h|h)<;>cases h)):lZ dk t' ys news:=h.step s hT
theorem WR {q k bytes m cap:Nat} {ad:Addr} {ys:List α} {news:List Value} (h:ev E x=some v) (h' : ev E y=some (.slice (some ad) m cap)) (ht:iQ q e k) {z:Value} (he:El e dk.k bytes z) (mM:0<dk.k) (hr:aZ t g B e dk v xs) (hm:m=ys.length) (hn:lZ dk t ys news)
  (hc:∀j u,news[j]?=some u→t.w.cell? (ad.add j)=some u) (hB:B≤t.w.heap.size) (fY:xs.length+ys.length≤1000000) (xG:bytes≤1000) (hg:g≠.fz) (hT:c.t0.w.heap.size≤B∨c.T g) :
  Ef c ⟨dd,.call { callee:=.builtin .append,args:=#[x,y],argTypes:=#[q,q] },ty,pos,af,gd⟩ E t (fun v' t' => bQ (fun z=>z=g) t t' ∧ aZ t' g B e dk v' (xs++ys)):=.mk fun hs a ha K Q hk=>by
 have hi:=(y5 he.h).1;have hz:=(y5 he.h).2.1;have vH:=(y5 he.h).2.2.1;have hb:=(y5 he.h).2.2.2;have Dq:=he.c;generalize (P.info? e).getD default=i0 at hi hz vH hb;obtain⟨inner,ho,Dg,hx⟩:=hr;subst hm;have aF9:(xs.length+ys.length)*bytes≤1000000*1000:=Nat.mul_le_mul fY xG;refine aR5 (run_append_own_at (P:=P) t.w B q ty e i0 z dk.k bytes ht.1 hi hz vH hb Dq mM v xs.length inner ho ad ys.length cap news hn.1 hc hn.one aV0 aTZ hB) fun v' hh=>aR5 hh fun w' hh=>?_;have lK:=hh.1;have aGE:=hh.2.1;have wN:=hh.2.2.1;have kU:=hh.2.2.2.2;clear hh
 let t' : TW:=⟨w', fun k=>if t.w.heap.size≤k then g else t.own k⟩
 have aM:bQ (fun z=>z=g) t t' := ⟨wN.os,wN.tape,wN.output,wN.size,fun k hk hn=>by
  refine⟨by simp only[t'];rw[if_neg aTZ],wN.block k hk ?_⟩;intro ev
  exact hn (Dg k ev.symm)⟩
 have eA:¬(fun z=>z=g) bB.fz:=fun e=>hg e.symm
 have aGI:aZ t' g B e dk v' (xs++ys):=by
  refine⟨inner++news,by simpa using aGE,fun b hb=>?_,fun i u hu=>?_⟩
  ·simp only[t'];by_cases aW:t.w.heap.size≤b
   ·rw[if_pos aW]
   ·rw[if_neg aW];rcases kU with kU|kU
    ·rw[kU]at hb;exact Dg b hb
    ·rw[kU]at hb;exact absurd (Nat.le_of_eq (aQB hb)) aW
  ·rw[Gd ho.1];split
   ·rename_i aW;rw[aRI aW]at hu;exact dk.stp aM eA (hx i u hu)
   ·rename_i dA;rw[aQ7 aTZ]at hu;exact dk.stp aM eA (hn.2 _ u hu)
 have F2:bQ c.T c.t0 t' := ⟨wN.os.trans hs.os,wN.tape.trans hs.tape,wN.output.trans hs.output,aP8 hs.size wN.size,fun k hk Cg=>by
  obtain⟨h1,h2⟩:=hs.keep k hk Cg;have mN:=aSI hk hs.size;refine⟨?_,(wN.block k mN ?_).trans h2⟩
  ·simp only[t'];rw[if_neg aTZ];exact h1
  ·intro ev;have OA:=(ho.lt k ev.symm).1;rcases hT with hT|hT
   ·omega
   ·rw[Dg k ev.symm]at h1;rw[←h1]at Cg
    exact Cg hT⟩
 unfold Oper.wp
 have:(execOp a.eval ⟨dd,.call { callee:=.builtin .append,args:=#[x,y],argTypes:=#[q,q] },ty,pos,af,gd⟩).run P t.w=.ok (.value v') w' := by
  simp only[execOp,resolve,invoke,builtin,Sem.run_bind,Sem.run_pure,Result.andThen_ok,aRP,aRC,aS4,ha.ev h,ha.ev h', lK]
 rw[this];exact hk v' t' F2 ⟨aM,aGI⟩
theorem Vd {q k cap cap' : Nat} {A:Option Addr} {len:Nat} (h:ev E x=some (.slice A len cap)) (h' : ev E y=some (.slice none 0 cap')) (ht:iQ q e k) (hl:len≤cap) :
  Ef c ⟨dd,.call { callee:=.builtin .append,args:=#[x,y],argTypes:=#[q,q] },ty,pos,af,gd⟩ E t (fun v' t' => v' = .slice A len cap∧t' = t):=.mk fun hs a ha K Q hk=>by
 unfold Oper.wp
 have lK:(Builtin.append_ #[q,q] ty #[.slice A len cap,.slice none 0 cap']).run P t.w=.ok (.slice A len cap) t.w:=by
  cases A<;>simp[Builtin.append_,iE ht.1,ht.2.run,Builtin.lenOf,Builtin.firstCells,hl,storeCells]
 have:(execOp a.eval ⟨dd,.call { callee:=.builtin .append,args:=#[x,y],argTypes:=#[q,q] },ty,pos,af,gd⟩).run P t.w=.ok (.value (.slice A len cap)) t.w:=by
  simp only[execOp,resolve,invoke,builtin,Sem.run_bind,Sem.run_pure,Result.andThen_ok,aRP,aRC,aS4,ha.ev h,ha.ev h', lK]
 rw[this];exact hk _ t hs ⟨Z,Z⟩
theorem ZD {c:i7} {t t' : TW} {b:Nat} {cs:List Value} {e:TypeId} {g:bB} (hb:Bk t b cs e g) (hT:c.t0.w.heap.size≤b∨c.T g) (hu:FB b t t') (hs:bQ c.T c.t0 t):bQ c.T c.t0 t' := by
 refine hu.from hs ?_;rcases hT with hT|hT
 ·exact .inl hT
 by_cases aW:b<c.t0.w.heap.size
 ·by_cases N1:c.T (c.t0.own b)
  ·exact .inr N1
  have:=(hs.keep b aW N1).1;rw[hb.2]at this;rw[this]at hT;exact .inr hT
 exact .inl aTZ
theorem tG {q q' e' k b o dLen dCap sLen sCap b' o' : Nat} {cs news:List Value} (h:ev E x=some (.slice (some ⟨b,o,none⟩) dLen dCap)) (h' : ev E y=some (.slice (some ⟨b', o', none⟩) sLen sCap)) (ht:iQ q e' k) (hb:Bk t b cs e g)
  (hn:news.length=min sLen dLen*k) (hA:At t.w b' o' news) (h1:∀u∈news,u.oneCell' = true) (nS:o+news.length≤cs.length) (hT:c.t0.w.heap.size≤b∨c.T g) :
  Ef c ⟨dd,.call { callee:=.builtin .copy,args:=#[x,y],argTypes:=#[q,q'] },ty,pos,af,gd⟩ E t (fun _ t' => MY t b (put cs o news) e g t'):=.mk fun hs a ha K Q hk=>by
 have hl:(loadCells ⟨b', o', none⟩ news.length).run P t.w=.ok news.toArray t.w:=run_loadCells_list (P:=P) t.w ⟨b', o', none⟩ news (fun j v hv=>by rw[sB];exact hA j v hv);have aM:=run_storeCells_at P b o e news 0 cs.toArray t.w hb.1 (by simpa using nS) h1;simp only[Nat.add_zero]at aM
 have lK:(Builtin.copy_ #[q,q'] ty #[.slice (some ⟨b,o,none⟩) dLen dCap,.slice (some ⟨b', o', none⟩) sLen sCap]).run P t.w=.ok (goInt (min sLen dLen:Nat)) (t.set b (put cs o news)).w:=by
  have e1:Nat.min sLen dLen=min sLen dLen:=Z;simp[Builtin.copy_,iE ht.1,ht.2.run,Builtin.lenOf,Builtin.firstCells,e1,←hn,hl,aM,TW.set,put]
 unfold Oper.wp
 have:(execOp a.eval ⟨dd,.call { callee:=.builtin .copy,args:=#[x,y],argTypes:=#[q,q'] },ty,pos,af,gd⟩).run P t.w=.ok (.value (goInt (min sLen dLen:Nat))) (t.set b (put cs o news)).w:=by
  simp only[execOp,resolve,invoke,builtin,Sem.run_bind,Sem.run_pure,Result.andThen_ok,aRP,aRC,aS4,ha.ev h,ha.ev h', lK]
 rw[this];have hu:=QT (cs' := put cs o news) hb;exact hk _ _ (ZD hb hT hu hs) ⟨hu,hu.step hb.2,QS hb⟩
theorem MT {q k b o len cap:Nat} {z:Value} {zs cs:List Value} (h:ev E x=some (.slice (some ⟨b,o,none⟩) len cap)) (hq:P.underlying q=some (.slice e)) (hz:Zr e z zs) (h0:0<len) (hb:Bk t b cs e g) (hk:zs.length=k) (h1:∀u∈zs,u.oneCell' = true) (nS:o+len*k≤cs.length)
  (hT:c.t0.w.heap.size≤b∨c.T g):Ef c ⟨dd,.call { callee:=.builtin .clear,args:=#[x],argTypes:=#[q] },ty,pos,af,gd⟩ E t (fun _ t' => ∃news:List Value,news.length=len*k∧MY t b (put cs o news) e g t'):=.mk fun hs a ha K Q yS=>by
 have O7:=hz.run t.w;have UN:=hz.cells;clear hz
 have hl:(Builtin.zeroCells zs.toArray len).toList.length=len*k:=by simp[Builtin.zeroCells,hk]
 have hm:∀u∈(Builtin.zeroCells zs.toArray len).toList,u.oneCell' = true:=fun u hu=>by
  simp only[Builtin.zeroCells,Array.toList_map,Array.toList_range,aRL,aRZ]at hu;obtain⟨i,hi,rfl⟩:=hu
  have mM:0<zs.toArray.size:=by
   rcases Nat.eq_zero_or_pos zs.toArray.size with h2|h2
   ·rw[h2]at hi;omega
   ·exact h2
  have aW:=Nat.mod_lt i mM;rw[getElem!_pos zs.toArray _ aW];exact h1 _ aT4
 have aM:=run_storeCells_at P b o e (Builtin.zeroCells zs.toArray len).toList 0 cs.toArray t.w hb.1 (by rw[hl];simpa using nS) hm;simp only[Nat.add_zero]at aM
 have lK:(Builtin.clear_ #[q] ty #[.slice (some ⟨b,o,none⟩) len cap]).run P t.w=.ok (.tuple #[]) (t.set b (put cs o (Builtin.zeroCells zs.toArray len).toList)).w:=by
  obtain⟨m,rfl⟩:∃m,len=m+1:=⟨len-1,by omega⟩
  simp[Builtin.clear_,iE hq,O7,UN,aM,TW.set,put]
 unfold Oper.wp
 have:(execOp a.eval ⟨dd,.call { callee:=.builtin .clear,args:=#[x],argTypes:=#[q] },ty,pos,af,gd⟩).run P t.w=.ok (.value (.tuple #[])) (t.set b (put cs o (Builtin.zeroCells zs.toArray len).toList)).w:=by
  simp only[execOp,resolve,invoke,builtin,Sem.run_bind,Sem.run_pure,Result.andThen_ok,aRP,aRC,aS4,ha.ev h,lK]
 rw[this];have hu:=QT (cs' := put cs o (Builtin.zeroCells zs.toArray len).toList) hb;exact yS _ _ (ZD hb hT hu hs) ⟨_,hl,hu,hu.step hb.2,QS hb⟩
end
section
variable {n:Sz} {E:eI} {dd:Option Nat} {ty:TypeId} {pos:String} {af:Array Edge} {gd:Option (Nat × Bool)} {x y:Operand}
theorem Hz {q:TypeId} {s:ByteArray} {k:IntKind} {i:Int} (h:ev E x=some (.string s)) (hi:ev E y=some (.int k i)) (hq:P.underlying q=some .string) (h0:0≤i) (h1:i.toNat<s.size):Fr n ⟨dd,.index q x y,ty,pos,af,gd⟩ E (.int .u8 (s[i.toNat]'h1).toNat):=fun a w ha=>by
 have:s[i.toNat]?=some (s[i.toNat]'h1):=getElem?_pos s i.toNat h1;simp[execOp,ha.ev h,ha.ev hi,Instr.index,asIntOf,iE hq,h0,this]
theorem Hy {q e len:Nat} {cs:Array Value} {k:IntKind} {i:Int} {v:Value} (h:ev E x=some (.agg cs)) (hi:ev E y=some (.int k i)) (hq:MO q len e 1) (hs:Sc e) (h0:0≤i) (h1:i<len) (hv:cs[i.toNat]?=some v):Fr n ⟨dd,.index q x y,ty,pos,af,gd⟩ E v:=fun a w ha=>by
 obtain⟨ds,h2,h3⟩:=hs
 have hg:(isAgg e).run P w=.ok false w:=by
  unfold isAgg;rw[Sem.run_bind,iE h2]
  cases ds<;>first|(cases h3;done)|rfl
 simp[execOp,ha.ev h,ha.ev hi,Instr.index,asIntOf,iE hq.1,h0,h1,hq.2.run,part,hg,hv]
theorem x5 {q f:Nat} {cs:Array Value} {fields:Array Field} {fld:Field} {v:Value} (h:ev E x=some (.agg cs)) (hq:P.underlying q=some (.struct fields)) (hf:fields[f]?=some fld) (hs:Sc fld.type) (hv:cs[fld.offset]?=some v):Fr n ⟨dd,.field q x f,ty,pos,af,gd⟩ E v:=fun a w ha=>by
 obtain⟨ds,h2,h3⟩:=hs
 have hg:(isAgg fld.type).run P w=.ok false w:=by
  unfold isAgg;rw[Sem.run_bind,iE h2]
  cases ds<;>first|(cases h3;done)|rfl
 simp[execOp,ha.ev h,Instr.field,iE hq,hf,asAgg,part,hg,hv]
end
section
variable {α:Type} {dk:Kn α} {c:i7} {E:eI} {dd:Option Nat} {ty:TypeId} {pos:String} {af:Array Edge} {gd:Option (Nat × Bool)} {x y:Operand} {v u:Value} {t:TW} {g:bB} {B e:Nat} {xs ys:List α}
theorem Je {b:Nat}:∀(ys:List α) (o:Nat),(∀i z,ys[i]?=some z→∃c,dk.R t z c∧At t.w b (o+i*dk.k) c)→∃news,lZ dk t ys news∧At t.w b o news
 | [],o,_=>⟨[],⟨by simp,fun i z h=>by cases h⟩,fun j v h=>by cases h⟩
 | z::ys,o,h=>by
  obtain⟨c,hR,hA⟩:=h 0 z Z
  obtain⟨news,hE,hN⟩:=Je ys (o+dk.k) (fun i w hi=>by
   obtain⟨c,h1,h2⟩:=h (i+1) w (by simpa using hi);refine⟨c,h1,?_⟩;rw[show o+dk.k+i*dk.k=o+(i+1)*dk.k by rw[aQ0];omega]
   exact h2)
  have hl:c.length=1*dk.k:=by rw[dk.len hR,aSB]
  refine⟨c++news,⟨by rw[aQE,hE.1,hl,aQH,aQ0];omega,fun i w hi=>?_⟩,fun j v hj=>?_⟩
  ·rw[Gd hl]
   cases i with
   | zero=>
    rw[if_pos aTZ]
    have hw:z=w:=by simpa using hi
    subst hw
    have:fJ c dk.k 0=c:=by
     unfold fJ;simp only[aSK,List.drop_zero];rw[aR0 (by rw[dk.len hR];exact aP9 _)]
    rw[this];exact hR
   | succ i=>
    rw[if_neg aTZ,Nat.add_sub_cancel];exact hE.2 i w (by simpa using hi)
  ·by_cases aW:j<c.length
   ·rw[aRI aW]at hj;have:=hA j v hj;simpa using this
   ·rw[aQ7 aTZ]at hj;have:=hN _ v hj;rw[show o+dk.k+(j-c.length)=o+j by rw[dk.len hR]at aW ⊢;omega]at this;exact this
theorem Sl.cat (h:Sl t dk u ys) (bR:ys≠[]):∃b o cap news,u=.slice (some ⟨b,o,none⟩) ys.length cap∧ys.length≤cap∧lZ dk t ys news∧At t.w b o news∧b<t.w.heap.size∧t.own b=.fz:=by
 obtain⟨A,cap,e,hc,hr⟩:=h;obtain⟨b,o,rfl,aW,hf,hx⟩:=hr bR;obtain⟨news,h1,h2⟩:=Je ys o hx;exact⟨b,o,cap,news,e,hc,h1,h2,aW,hf⟩
theorem lY {q k bytes:Nat} {z:Value} (h:ev E x=some v) (h' : ev E y=some u) (ht:iQ q e k) (he:El e dk.k bytes z) (mM:0<dk.k) (hr:aZ t g B e dk v xs) (hu:Sl t dk u ys)
  (hB:B≤t.w.heap.size) (fY:xs.length+ys.length≤1000000) (xG:bytes≤1000) (hg:g≠.fz) (hT:c.t0.w.heap.size≤B∨c.T g) :
  Ef c ⟨dd,.call { callee:=.builtin .append,args:=#[x,y],argTypes:=#[q,q] },ty,pos,af,gd⟩ E t (fun v' t' => bQ (fun z=>z=g) t t' ∧ aZ t' g B e dk v' (xs++ys)):=by
 by_cases bR:ys=[]
 ·subst bR;obtain⟨A,cap,rfl,hc⟩:=hu.form
  cases A with
  | none=>
   obtain⟨A', cap', rfl,xH⟩:=hr.form;refine .mk fun hs a ha K Q hk=>(Vd h h' ht xH).out hs a ha K Q fun v' t' fM hh=>?_;obtain⟨rfl,rfl⟩:=hh;exact hk _ _ fM ⟨bQ.refl _ _,by rw[aR3];exact hr⟩
  | some ad=>exact WR (news:=[]) h h' ht he mM hr rfl ⟨by simp,fun i z h=>by cases h⟩ (fun j u h=>by cases h) hB fY xG hg hT
 ·obtain⟨b,o,cap,news,rfl,_,hE,hA,_,_⟩:=hu.cat bR;exact WR h h' ht he mM hr Z hE (fun j w hj=>by rw[sB];exact hA j w hj) hB fY xG hg hT
theorem fO {q k bytes b:Nat} {z:Value} {y1:α} {cs:List Value} {gb:bB} (h:ev E x=some v) (h' : ev E y=some (.slice (some ⟨b,0,none⟩) 1 1)) (hb:Bk t b cs e gb) (hy:dk.R t y1 cs) (ht:iQ q e k) (he:El e dk.k bytes z) (mM:0<dk.k) (hr:aZ t g B e dk v xs)
  (hB:B≤t.w.heap.size) (fY:xs.length+1≤1000000) (xG:bytes≤1000) (hg:g≠.fz) (hT:c.t0.w.heap.size≤B∨c.T g) :
  Ef c ⟨dd,.call { callee:=.builtin .append,args:=#[x,y],argTypes:=#[q,q] },ty,pos,af,gd⟩ E t (fun v' t' => bQ (fun z=>z=g) t t' ∧ aZ t' g B e dk v' (xs++[y1])):=
 WR (ys:=[y1]) h h' ht he mM hr rfl (zW hy) (fun j u hj=>by rw[sB,aQF];exact hb.cell hj) hB fY xG hg hT
theorem oX {b cap:Nat} {cs:List Value} (hb:Bk t b cs e g) (hB:B≤b) (hs:cs.length=cap*dk.k) (hm:cap≤maxLen):aZ t g B e dk (.slice (some ⟨b,0,none⟩) 0 cap) []:=
 aZ.of_block (xs:=[]) hb hB (aQC _) hs hm (fun i x h=>by cases h)
theorem G4 {b:Nat} {cs:List Value} {y1:α} (hb:Bk t b cs e .fz) (hy:dk.R t y1 cs):Sl t dk (.slice (some ⟨b,0,none⟩) 1 1) [y1]:=by
 refine⟨_,1,Z,aP9 _,fun _=>⟨b,0,Z,hb.lt,hb.2,fun i x hi=>?_⟩⟩
 cases i with
 | zero=>
  have:y1=x:=by simpa using hi
  subst this;exact⟨cs,hy,fun j v hj=>by rw[aSK,Nat.add_zero,aQF];exact hb.cell hj⟩
 | succ i=>simp at hi
end
abbrev kR (c:cY):List Value:=[O c.stripes,O c.sessions,O c.queue,O c.watches,O c.retries,U c.epochs,U c.start]
abbrev lW (x:mZ):List Value:=[U x.now,U x.seq,.bool x.closed]
abbrev kP (p:q7):List Value:=[O p.status,O p.prio,O p.live]
abbrev kW (x:bT):List Value:=[O x.id,O x.status,O x.prio,U x.til]
abbrev o0 (x:cI):List Value:=[.string x.user,O x.old.status,O x.old.prio,O x.old.live,O x.new.status,O x.new.prio,O x.new.live,U x.seq]
abbrev M8 (x:gB):List Value:=[.string x.user,O x.old.status,O x.old.prio,O x.old.live,O x.new.status,O x.new.prio,O x.new.live]
abbrev nZ (x:dE) (u:Value):List Value:=[O x.kind,.string x.user,O x.id,O x.status,O x.prio,U x.ttl,u]
abbrev Pk (x:z5):List Value:=[O x.kind,O x.who,U x.by_]
def pV:Kn q7:=uS 3 kP (fun _=>rfl) (fun x u hu=>by simp at hu;rcases hu with rfl|rfl|rfl<;>rfl)
def dL:Kn bT:=uS 4 kW (fun _=>rfl) (fun x u hu=>by simp at hu;rcases hu with rfl|rfl|rfl|rfl<;>rfl)
def eB:Kn cI:=uS 8 o0 (fun _=>rfl) (fun x u hu=>by simp at hu;rcases hu with rfl|rfl|rfl|rfl|rfl|rfl|rfl|rfl<;>rfl)
def uC:Kn gB:=uS 7 M8 (fun _=>rfl) (fun x u hu=>by simp at hu;rcases hu with rfl|rfl|rfl|rfl|rfl|rfl|rfl<;>rfl)
def xP:Kn z5:=uS 3 Pk (fun _=>rfl) (fun x u hu=>by simp at hu;rcases hu with rfl|rfl|rfl<;>rfl)
theorem Sl.cell {α:Type} {d:Kn α} {t:TW} {v:Value} {xs:List α} (h:Sl t d v xs):v.oneCell' = true:=by
 obtain⟨A,cap,rfl,_⟩:=h;rfl
def fG {α:Type} (d:Kn α):Kn (List α) where
 k:=1
 R:=fun t x c=>∃v,c=[v]∧Sl t d v x
 len:=by rintro t x c ⟨v,rfl,_⟩;rfl
 one:=by
  rintro t x c ⟨v,rfl,h⟩ u hu;rw[aQR.1 hu];exact h.cell
 stp:=by
  rintro T t t' x c s hT ⟨v,rfl,h⟩;exact⟨v,Z,h.step s hT⟩
def nX:Kn dE where
 k:=7
 R:=fun t x c=>∃u,c=nZ x u∧Sl t dJ u x.users
 len:=by rintro t x c ⟨v,rfl,_⟩;rfl
 one:=by
  rintro t x c ⟨v,rfl,h⟩ u hu;simp at hu
  rcases hu with rfl|rfl|rfl|rfl|rfl|rfl|rfl<;>first|rfl|exact h.cell
 stp:=by
  rintro T t t' x c s hT ⟨v,rfl,h⟩;exact⟨v,Z,h.step s hT⟩
def gS:Kn dS where
 k:=4
 R:=fun t x c=>∃u,c=u::kP x.told∧Sl t dL u x.sessions
 len:=by rintro t x c ⟨v,rfl,_⟩;rfl
 one:=by
  rintro t x c ⟨v,rfl,h⟩ u hu;simp at hu
  rcases hu with rfl|rfl|rfl|rfl<;>first|rfl|exact h.cell
 stp:=by
  rintro T t t' x c s hT ⟨v,rfl,h⟩;exact⟨v,Z,h.step s hT⟩
def JU (t:TW) (kv vv:Value) (b:dV):Prop:=Sl t dJ kv b.keys∧Sl t gS vv b.vals
theorem JU.step {T:bB→Prop} {t t' : TW} {kv vv:Value} {b:dV} (h:JU t kv vv b) (s:bQ T t t') (hT:¬T .fz):JU t' kv vv b:=⟨h.1.step s hT,h.2.step s hT⟩
theorem JU.n {T:bB→Prop} {t t' : TW} {kv vv:Value} {b:dV} (h:JU t kv vv b) (s:bQ T t t') (hT:¬T .fz:=by first|exact id|nofun|(rintro (h|h)<;>cases h)|(rintro (h|h|h)<;>cases h)):JU t' kv vv b:=h.step s hT
abbrev VI (x:sA) (vv ev:Value):List Value:=[O x.err,vv,ev,.bool x.lost]
open Go.ChangeShapes Go.WideShapes Go.Deep
def E1 (w:World):TW:=⟨w,fun _=>.fz⟩
theorem Ww {w w' : World} {own' : Nat→bB} {T:bB→Prop} (h:bQ T (E1 w) ⟨w', own'⟩) (hT:¬T .fz):RowKit.Below w.heap.size w w' :=
 ⟨h.os,h.tape,h.output,h.size,fun k hk=>(h.keep k hk hT).2⟩
section
variable {H:Type} {enc:TypeId × Value→H} {w:World} {base:Nat} {spare:Nat→Bool} {vD:Bool}
def JY {α:Type} (enc:TypeId × Value→H) (w:World) (base:Nat) (spare:Nat→Bool) (vD:Bool) (e:TypeId) (d:Kn α) (Q:α→Prop):Prop:=
 ∀(fuel:Nat) (cs:List Value) (x:DataW H × List MemPlace),cs.length=d.k→DataW.trod enc P w base spare vD fuel e cs=some x→∃y,d.R (E1 w) y cs∧Q y
theorem Pa {α:Type} {t e:TypeId} {d:Kn α} {Q:α→Prop} (ht:P.underlying t=some (.slice e)) (hc:P.cellsOf e=d.k) (hk:0<d.k) (AN:JY enc w base spare vD e d Q)
  {fuel:Nat} {cs:List Value} {x:DataW H × List MemPlace} (h:DataW.trod enc P w base spare vD fuel t cs=some x) :
  ∃(v:Value) (xs:List α),cs=[v]∧Sl (E1 w) d v xs∧∀y∈xs,Q y:=by
 rcases open_slice ht h with ⟨rfl,_⟩|⟨a,len,cap,m,n,D,Pl,rfl,hb,hl,hm,wO,_,hx⟩
 ·exact⟨_,[],Z,Sl.nil _ _ none 0,fun y hy=>by cases hy⟩
 ·have hlm:len≤m:=by rw[wO];split<;>omega
  have key:∀i,i<len→∃y,Q y∧∃c,c.length=d.k∧d.R (E1 w) y c∧∀j u,c[j]?=some u→w.cell? (a.add (i*d.k+j))=some u:=by
   intro i hi;obtain⟨c,h1,h2⟩:=hx i aTZ;rw[hc]at h1;obtain⟨_,fY,An⟩:=World.cells?_some h1;obtain⟨y,hK,hQ⟩:=AN n c _ fY h2;refine⟨y,hQ,c,fY,hK,fun j u hu=>?_⟩
   have hj:j<d.k:=by rw[←fY];exact (aQG.1 hu).1
   have:=An j hj;rw[hu,Go.Deep.add_add]at this;exact this
  have all:∀l:Nat,l≤len→∃xs:List α,xs.length=l∧(∀y∈xs,Q y)∧∀i y,xs[i]?=some y→∃c,c.length=d.k∧d.R (E1 w) y c∧∀j u,c[j]?=some u→w.cell? (a.add (i*d.k+j))=some u:=by
   intro l
   induction l with
   | zero=>exact fun _=>⟨[],rfl,fun y hy=>(by cases hy),fun i y hy=>(by cases hy)⟩
   | succ l ih=>
    intro hl;obtain⟨xs,h1,h2,h3⟩:=ih aTZ;obtain⟨y,hQ,hy⟩:=key l aTZ;refine⟨xs++[y],by simp[h1],fun z hz=>?_,fun i z hz=>?_⟩
    ·rcases aQX.1 hz with hz|hz
     ·exact h2 z hz
     ·rw[aQR.1 hz];exact hQ
    ·rw[List.getElem?_append]at hz;split at hz
     ·exact h3 i z hz
     ·rename_i hi
      have:i=l:=by
       have:=(aQG.1 hz).1;simp at this;omega
      subst this;rw[h1]at hz;simp at hz;subst hz;exact hy
  obtain⟨xs,h1,h2,h3⟩:=all len (aP9 _);refine⟨_,xs,Z,⟨some a,cap,by rw[h1],by omega,fun bR=>?_⟩,h2⟩;obtain⟨y0,ys,rfl⟩:=List.exists_cons_of_ne_nil bR;obtain⟨c0,hc0,_,hcc⟩:=h3 0 y0 Z;have D5:=hcc 0 c0[0] (aQA aTZ)
  have hsp:a.spot=none∧a.block<w.heap.size:=by
   rw[aSK]at D5;have D5:w.cell? a=some c0[0]:=D5;unfold World.cell? at D5
   cases hb:w.heap[a.block]? with
   | none=>rw[hb]at D5;cases D5
   | some o=>
    refine⟨?_,(aTK.1 hb).1⟩;rw[hb]at D5
    cases o with
    | cells cc _ _=>
     cases hs:a.spot with
     | none=>rfl
     | some _=>simp[hs]at D5
    | _=>cases D5
  obtain⟨b,o,sp⟩:=a;obtain⟨rfl,aW⟩:=hsp;refine⟨b,o,Z,aW,Z,fun i x hi=>?_⟩;obtain⟨c,_,hR,An⟩:=h3 i x hi;refine⟨c,hR,fun j u hu=>?_⟩;have:=An j u hu
  have e:(⟨b,o,none⟩:Addr).add (i*d.k+j)=⟨b,o+i*d.k+j,none⟩:=by
   unfold Addr.add;split
   ·rename_i h0;rw[show o+i*d.k+j=o by omega]
   ·rw[Nat.add_assoc]
  rw[e]at this;exact this
theorem XB {t:TypeId} (hc:P.cellsOf t=1) {cs:List Value} {o:Nat} {v:Value} (hv:cs[o]?=some v):(cs.drop o).take (P.cellsOf t)=[v]:=by
 rw[hc];have aW:=(aQG.1 hv).1;rw[aS1 aW,List.take_succ_cons,List.take_zero];rw[(aQG.1 hv).2]
theorem mA {l:List Value} {n:Nat} (h:l.length=n+1):∃a t,l=a::t∧t.length=n:=by
 cases l with
 | nil=>cases h
 | cons a t=>exact⟨a,t,rfl,Nat.succ.inj h⟩
theorem UT {l:List Value} (h:l.length=0):l=[]:=List.length_eq_zero_iff.1 h
theorem z7:P.cellsOf 3=1:=by kernel_rfl
theorem co9:P.cellsOf 9=1:=by kernel_rfl
theorem RJ:P.cellsOf 22=1:=by kernel_rfl
theorem Xn:P.cellsOf 54=1:=by kernel_rfl
theorem Xo:P.cellsOf 56=7:=by kernel_rfl
theorem Xp:P.cellsOf 76=1:=by kernel_rfl
theorem Xq:P.cellsOf 78=3:=by kernel_rfl
theorem Xj:P.cellsOf 24=7:=by kernel_rfl
theorem Xk:P.cellsOf 25=1:=by kernel_rfl
theorem Xl:P.cellsOf 26=1:=by kernel_rfl
theorem Yo:JY enc w base spare vD 9 dJ (fun _=>True):=by
 intro fuel cs x _ h;obtain⟨s,rfl,_,hw⟩:=DataW.trod_string underlying9 h;exact⟨s,Z,trivial⟩
theorem uX {n:Nat} {t:TypeId} {k:IntKind} {cs:List Value} {o:Nat} {v:Value} {x:Option (DataW H × List MemPlace)} (hu:P.underlying t=some (.int k)) (hc:P.cellsOf t=1) (hv:cs[o]?=some v) (h:DataW.trod enc P w base spare vD n t ((cs.drop o).take (P.cellsOf t))=x) (hx:x.isSome=true):∃i,v=.int k i∧(Lit.int k i).wf=true:=by
 rw[XB hc hv]at h;obtain⟨y,rfl⟩:=aTY.1 hx;obtain⟨i,e,_,hw⟩:=DataW.trod_int hu h;exact⟨i,(List.cons.inj e).1,hw⟩
theorem aDW {n:Nat} {t:TypeId} {cs:List Value} {o:Nat} {v:Value} {x:Option (DataW H × List MemPlace)} (hu:P.underlying t=some .string) (hc:P.cellsOf t=1) (hv:cs[o]?=some v) (h:DataW.trod enc P w base spare vD n t ((cs.drop o).take (P.cellsOf t))=x) (hx:x.isSome=true):∃i,v=.string i:=by
 rw[XB hc hv]at h;obtain⟨y,rfl⟩:=aTY.1 hx;obtain⟨i,e,_,hw⟩:=DataW.trod_string hu h;exact⟨i,(List.cons.inj e).1⟩
theorem ZB {α:Type} {d:Kn α} {Q:α→Prop} {n:Nat} {t e:TypeId} {cs:List Value} {o:Nat} {v:Value} {x:Option (DataW H × List MemPlace)} (hu:P.underlying t=some (.slice e)) (hc:P.cellsOf t=1) (xI:P.cellsOf e=d.k) (hk:0<d.k) (AN:JY enc w base spare vD e d Q) (hv:cs[o]?=some v) (h:DataW.trod enc P w base spare vD n t ((cs.drop o).take (P.cellsOf t))=x) (hx:x.isSome=true):∃l,Sl (E1 w) d v l∧∀y∈l,Q y:=by
 rw[XB hc hv]at h;obtain⟨y,rfl⟩:=aTY.1 hx;obtain⟨v', l,e,hs,hq⟩:=Pa hu xI hk AN h;rw[(List.cons.inj e).1];exact⟨l,hs,hq⟩
def QM (x:dE):Prop:=0≤x.ttl∧x.ttl≤18446744073709551615
def WW (p:z5):Prop:=0≤p.by_∧p.by_≤18446744073709551615
theorem Yl:JY enc w base spare vD 56 nX QM:=by
 intro fuel cs x hl h;obtain⟨xs,n,_,_,_,fY,hf⟩:=DataW.trod_struct underlying56 h;have hl:cs.length=7:=hl;obtain⟨a0,t0,rfl,hl0⟩:=mA hl;obtain⟨a1,t1,rfl,hl1⟩:=mA hl0;obtain⟨a2,t2,rfl,iB⟩:=mA hl1;obtain⟨a3,t3,rfl,F4⟩:=mA iB;obtain⟨a4,t4,rfl,IM⟩:=mA F4;obtain⟨a5,t5,rfl,OO⟩:=mA IM;obtain⟨a6,t6,rfl,OP⟩:=mA OO;obtain rfl:=UT OP
 have so:∀i,i<7→(xs[i]?).isSome=true:=fun i hi=>by
  rw[aQA (by rw[fY];exact hi)];rfl
 obtain⟨i0,rfl,_⟩:=uX (o:=0) underlying3 z7 Z (hf 0 _ Z) (so 0 aT0);obtain⟨i1,rfl⟩:=aDW (o:=1) underlying9 co9 Z (hf 1 _ Z) (so 1 aT0);obtain⟨i2,rfl,_⟩:=uX (o:=2) underlying3 z7 Z (hf 2 _ Z) (so 2 aT0);obtain⟨i3,rfl,_⟩:=uX (o:=3) underlying3 z7 Z (hf 3 _ Z) (so 3 aT0);obtain⟨i4,rfl,_⟩:=uX (o:=4) underlying3 z7 Z (hf 4 _ Z) (so 4 aT0);obtain⟨i5,rfl,h5⟩:=uX (o:=5) underlying22 RJ Z (hf 5 _ Z) (so 5 aT0);obtain⟨l,hs,_⟩:=ZB (o:=6) (d:=dJ) underlying54 Xn co9 aT0 Yo Z (hf 6 _ Z) (so 6 aT0);exact⟨⟨i0,i1,i2,i3,i4,i5,l⟩,⟨_,Z,hs⟩,Go.bounds_u64 h5⟩
theorem Ym:JY enc w base spare vD 76 (fG nX) (fun l=>∀x∈l,QM x):=by
 intro fuel cs x hl h;obtain⟨v,l,rfl,hs,hq⟩:=Pa underlying76 Xo aT0 Yl h;exact⟨l,⟨v,Z,hs⟩,hq⟩
theorem Yn:JY enc w base spare vD 78 xP WW:=by
 intro fuel cs x hl h;obtain⟨xs,n,_,_,_,fY,hf⟩:=DataW.trod_struct underlying78 h;have hl:cs.length=3:=hl;obtain⟨a0,t0,rfl,hl0⟩:=mA hl;obtain⟨a1,t1,rfl,hl1⟩:=mA hl0;obtain⟨a2,t2,rfl,iB⟩:=mA hl1;obtain rfl:=UT iB
 have so:∀i,i<3→(xs[i]?).isSome=true:=fun i hi=>by
  rw[aQA (by rw[fY];exact hi)];rfl
 obtain⟨i0,rfl,_⟩:=uX (o:=0) underlying3 z7 Z (hf 0 _ Z) (so 0 aT0);obtain⟨i1,rfl,_⟩:=uX (o:=1) underlying3 z7 Z (hf 1 _ Z) (so 1 aT0);obtain⟨i2,rfl,h2⟩:=uX (o:=2) underlying22 RJ Z (hf 2 _ Z) (so 2 aT0);exact⟨⟨i0,i1,i2⟩,Z,Go.bounds_u64 h2⟩
theorem Yk {fuel:Nat} {cs:List Value} {x:DataW H × List MemPlace} (hl:cs.length=7) (h:DataW.trod enc P w base spare vD fuel 24 cs=some x):∃c:cY,cs=kR c∧(0≤c.epochs∧c.epochs≤18446744073709551615)∧0≤c.start∧c.start≤18446744073709551615:=by
 obtain⟨xs,n,_,_,_,fY,hf⟩:=DataW.trod_struct underlying24 h;obtain⟨a0,t0,rfl,hl0⟩:=mA hl;obtain⟨a1,t1,rfl,hl1⟩:=mA hl0;obtain⟨a2,t2,rfl,iB⟩:=mA hl1;obtain⟨a3,t3,rfl,F4⟩:=mA iB;obtain⟨a4,t4,rfl,IM⟩:=mA F4;obtain⟨a5,t5,rfl,OO⟩:=mA IM;obtain⟨a6,t6,rfl,OP⟩:=mA OO;obtain rfl:=UT OP
 have so:∀i,i<7→(xs[i]?).isSome=true:=fun i hi=>by
  rw[aQA (by rw[fY];exact hi)];rfl
 obtain⟨i0,rfl,_⟩:=uX (o:=0) underlying3 z7 Z (hf 0 _ Z) (so 0 aT0);obtain⟨i1,rfl,_⟩:=uX (o:=1) underlying3 z7 Z (hf 1 _ Z) (so 1 aT0);obtain⟨i2,rfl,_⟩:=uX (o:=2) underlying3 z7 Z (hf 2 _ Z) (so 2 aT0);obtain⟨i3,rfl,_⟩:=uX (o:=3) underlying3 z7 Z (hf 3 _ Z) (so 3 aT0);obtain⟨i4,rfl,_⟩:=uX (o:=4) underlying3 z7 Z (hf 4 _ Z) (so 4 aT0);obtain⟨i5,rfl,h5⟩:=uX (o:=5) underlying22 RJ Z (hf 5 _ Z) (so 5 aT0);obtain⟨i6,rfl,h6⟩:=uX (o:=6) underlying22 RJ Z (hf 6 _ Z) (so 6 aT0);exact⟨⟨i0,i1,i2,i3,i4,i5,i6⟩,Z,Go.bounds_u64 h5,Go.bounds_u64 h6⟩
theorem aIC {fuel:Nat} {cs:List Value} {x:DataW H × List MemPlace} (hl:cs.length=9) (h:DataW.trod enc P w base spare vD fuel 28 cs=some x) :
  ∃(s:iI) (cv pv:Value),cs=kR s.cfg++[cv,pv]∧Sl (E1 w) (fG nX) cv s.clients∧Sl (E1 w) xP pv s.picks∧(0≤s.cfg.epochs∧s.cfg.epochs≤18446744073709551615)∧(0≤s.cfg.start∧s.cfg.start≤18446744073709551615)∧(∀p∈s.picks,WW p)∧∀l∈s.clients,∀x∈l,QM x:=by
 obtain⟨xs,n,_,_,_,fY,hf⟩:=DataW.trod_struct underlying28 h
 have so:∀i,i<3→(xs[i]?).isSome=true:=fun i hi=>by
  rw[aQA (by rw[fY];exact hi)];rfl
 obtain⟨a0,t0,rfl,hl0⟩:=mA hl;obtain⟨a1,t1,rfl,hl1⟩:=mA hl0;obtain⟨a2,t2,rfl,iB⟩:=mA hl1;obtain⟨a3,t3,rfl,F4⟩:=mA iB;obtain⟨a4,t4,rfl,IM⟩:=mA F4;obtain⟨a5,t5,rfl,OO⟩:=mA IM;obtain⟨a6,t6,rfl,OP⟩:=mA OO;obtain⟨a7,t7,rfl,hl7⟩:=mA OP;obtain⟨a8,t8,rfl,hl8⟩:=mA hl7;obtain rfl:=UT hl8;have h0:=hf 0 _ Z;obtain⟨y0,hy0⟩:=aTY.1 (so 0 aT0);rw[hy0]at h0;have h0:DataW.trod enc P w base spare vD n 24 (([a0,a1,a2,a3,a4,a5,a6,a7,a8].drop 0).take (P.cellsOf 24))=some y0:=h0;rw[Xj]at h0;obtain⟨c,hc,e5,e6⟩:=Yk Z h0;obtain⟨cl,hs,hq⟩:=ZB (o:=7) (d:=fG nX) underlying25 Xk Xp aT0 Ym Z (hf 1 _ Z) (so 1 aT0);obtain⟨pk,LO,UB⟩:=ZB (o:=8) (d:=xP) underlying26 Xl Xq aT0 Yn Z (hf 2 _ Z) (so 2 aT0);refine⟨⟨c,cl,pk⟩,a7,a8,?_,hs,LO,e5,e6,UB,hq⟩;show _=kR c++[a7,a8];rw[←hc];rfl
end
def bs (p:Nat→Bool) (lo hi:Nat):Nat:=if lo<hi then (if p ((lo+hi) / 2) then bs p ((lo+hi) / 2+1) hi else bs p lo ((lo+hi) / 2)) else lo
termination_by hi-lo
def cH (ks:List ByteArray) (k:ByteArray):Nat × Bool:=
 (bs (fun m=>(ks[m]?).any fun x=>iZ x k) 0 ks.length,(ks[bs (fun m=>(ks[m]?).any fun x=>iZ x k) 0 ks.length]?).any fun x=>decide (x=k))
def eV (l:List bT) (id:Int):Nat × Bool:=
 (bs (fun m=>(l[m]?).any fun x=>decide (x.id<id)) 0 l.length,(l[bs (fun m=>(l[m]?).any fun x=>decide (x.id<id)) 0 l.length]?).any fun x=>decide (x.id=id))
def live (now:Int) (x:bT):Bool:=!decide (x.til≤now)
theorem RC (p:Nat→Bool):∀(n lo hi:Nat),hi-lo≤n→lo≤hi→lo≤bs p lo hi∧bs p lo hi≤hi:=by
 intro n
 induction n with
 | zero=>
  intro lo hi h1 h2;rw[bs,if_neg aTZ];omega
 | succ n ih=>
  intro lo hi h1 h2;rw[bs];split
  ·split
   ·have:=ih ((lo+hi) / 2+1) hi aTZ aTZ;omega
   have:=ih lo ((lo+hi) / 2) aTZ aTZ;omega
  omega
theorem B6 (ks:List ByteArray) (k:ByteArray):(cH ks k).1≤ks.length:=(RC _ _ _ _ (aP9 _) (aQC _)).2
theorem SK (l:List bT) (id:Int):(eV l id).1≤l.length:=(RC _ _ _ _ (aP9 _) (aQC _)).2
theorem W1 {α:Type} {o:Option α} {p:α→Bool} (h:o.any p=true):∃x,o=some x∧p x=true:=by
 cases o with
 | none=>cases h
 | some x=>exact⟨x,rfl,h⟩
theorem B7 {ks:List ByteArray} {k:ByteArray} (h:(cH ks k).2=true):(cH ks k).1<ks.length∧ks[(cH ks k).1]?=some k:=by
 obtain⟨x,hx,he⟩:=W1 h;have:=bA he;subst this;exact⟨(aQG.1 hx).1,hx⟩
theorem Y7 {l:List bT} {id:Int} (h:(eV l id).2=true):(eV l id).1<l.length:=by
 obtain⟨x,hx,_⟩:=W1 h;exact (aQG.1 hx).1
theorem Is:∀x:List UInt8,Op.bytesLess x x=false
 | []=>rfl
 | a::x=>by simp[Op.bytesLess,Is x,UInt8.lt_irrefl]
theorem Iu:∀{x y z:List UInt8},Op.bytesLess x y=true→Op.bytesLess y z=true→Op.bytesLess x z=true
 | _,[],_,h,_=>by simp[Op.bytesLess]at h
 | _,_::_,[],_,h=>by simp[Op.bytesLess]at h
 | [],_::_,_::_,_,_=>rfl
 | a::x,b::y,c::z,h1,h2=>by
  simp only[Op.bytesLess,aRW,decide_eq_true_eq,aQV,beq_iff_eq]at h1 h2 ⊢;rcases h1 with h1|⟨rfl,h1⟩
  ·rcases h2 with h2|⟨rfl,_⟩
   ·exact .inl (UInt8.lt_trans h1 h2)
   ·exact .inl h1
  ·rcases h2 with h2|⟨rfl,h2⟩
   ·exact .inl h2
   ·exact .inr ⟨Z,Iu h1 h2⟩
theorem It:∀{x y:List UInt8},Op.bytesLess x y=false→x≠y→Op.bytesLess y x=true
 | [],[],_,h=>absurd rfl h
 | _::_,[],_,_=>rfl
 | [],_::_,h,_=>by simp[Op.bytesLess]at h
 | a::x,b::y,h,bR=>by
  simp only[Op.bytesLess,Bool.or_eq_false_iff,decide_eq_false_iff_not,Bool.and_eq_false_imp,beq_iff_eq]at h;simp only[Op.bytesLess,aRW,decide_eq_true_eq,aQV,beq_iff_eq];by_cases e:a=b
  ·subst e;exact .inr ⟨Z,It (h.2 Z) (fun e=>bR (by rw[e]))⟩
  ·exact .inl (UInt8.lt_of_le_of_ne (UInt8.not_lt.1 h.1) (Ne.symm e))
theorem GN (x:ByteArray):iZ x x=false:=Is _
theorem Fw {x y z:ByteArray} (h:iZ x y=true) (k:iZ y z=true):iZ x z=true:=Iu h k
theorem toList_inj {x y:ByteArray} (h:x.toList=y.toList):x=y:=by
 simp only[ByteArray.toList_eq]at h;exact ByteArray.ext (Array.toList_inj.1 h)
theorem aMK {x y:ByteArray} (h:iZ x y=false) (bR:x≠y):iZ y x=true:=It h fun e=>bR (toList_inj e)
theorem aMJ {x y:ByteArray} (h:iZ x y=true):iZ y x=false:=by
 cases e:iZ y x
 ·rfl
 have:=Fw h e;rw[GN]at this;cases this
def KS (ks:List ByteArray):Prop:=ks.Pairwise fun x y=>iZ x y=true
theorem Ja (p:Nat→Bool) (hp:∀i j,i≤j→p j=true→p i=true):∀(n lo hi:Nat),hi-lo≤n→lo≤hi→(∀i,i<lo→p i=true)→(∀i,hi≤i→p i=false)→(∀i,i<bs p lo hi→p i=true)∧∀i,bs p lo hi≤i→p i=false:=by
 intro n
 induction n with
 | zero=>
  intro lo hi h1 h2 h3 h4;rw[bs,if_neg aTZ];exact⟨h3,fun i lG => h4 i aTZ⟩
 | succ n ih=>
  intro lo hi h1 h2 h3 h4;rw[bs];split
  ·split
   ·rename_i hm;exact ih _ _ aTZ aTZ (fun i lG => hp i _ aTZ hm) h4
   rename_i hm;refine ih _ _ aTZ aTZ h3 fun i lG => ?_;cases e:p i
   ·rfl
   exact absurd (hp _ _ lG e) hm
  exact⟨h3,fun i lG => h4 i aTZ⟩
theorem KS.lt {ks:List ByteArray} (h:KS ks) {i j:Nat} {x y:ByteArray} (hx:ks[i]?=some x) (hy:ks[j]?=some y) (xL:i<j):iZ x y=true:=by
 obtain⟨hi,rfl⟩:=aQG.1 hx;obtain⟨hj,rfl⟩:=aQG.1 hy;exact aTX.1 h i j hi hj xL
theorem Y9 {ks:List ByteArray} (h:KS ks) (k:ByteArray):(∀i x,ks[i]?=some x→i<(cH ks k).1→iZ x k=true)∧∀i x,ks[i]?=some x→(cH ks k).1≤i→iZ x k=false:=by
 have hb:=Ja (fun m=>(ks[m]?).any fun x=>iZ x k) (fun i j xL hj=>by
  obtain⟨y,hy,UM⟩:=W1 hj;have aW:=(aQG.1 hy).1;have hx:=aQA (l:=ks) (i:=i) aTZ;show (ks[i]?).any _=true;rw[hx];rcases aTS xL with e|rfl
  ·exact Fw (h.lt hx hy e) UM
  ·rw[hx]at hy;obtain rfl:=aQB hy
   exact UM) ks.length 0 ks.length aTZ (aQC _) (fun i hi=>absurd hi (aQW _)) (fun i hi=>by
  show (ks[i]?).any _=false;rw[aRJ hi]
  rfl)
 refine⟨fun i x hx hi=>?_,fun i x hx hi=>?_⟩
 ·have:=hb.1 i hi;simp only[hx,aS9]at this;exact this
 have:=hb.2 i hi;simp only[hx,aS9]at this;exact this
theorem SL {ks:List ByteArray} (h:KS ks) {k:ByteArray} {i:Nat} (hi:ks[i]?=some k):(cH ks k).1=i∧(cH ks k).2=true:=by
 obtain⟨h1,h2⟩:=Y9 h k
 have rN:(cH ks k).1≤i:=by
  rcases aSU i (cH ks k).1 with e|e
  ·have:=h1 i k hi e;rw[GN]at this;cases this
  exact e
 have dA:i≤(cH ks k).1:=by
  rcases aSU (cH ks k).1 i with e|e
  ·have aW:=(aQG.1 hi).1;have hx:=aQA (l:=ks) (i:=(cH ks k).1) aTZ;have g1:=h.lt hx hi e;rw[h2 _ _ hx (aP9 _)]at g1;cases g1
  exact e
 have e:(cH ks k).1=i:=Nat.le_antisymm rN dA;refine⟨e,?_⟩;show (ks[(cH ks k).1]?).any _=true;rw[e,hi];simp
section
variable {β:Type}
def lL (ks:List ByteArray) (vs:List β) (k:ByteArray) (z:β):β × Bool:=if (cH ks k).2=true then ((vs[(cH ks k).1]?).getD z,true) else (z,false)
def gG (ks:List ByteArray) (k:ByteArray):List ByteArray:=if (cH ks k).2=true then ks else ks.take (cH ks k).1++k::ks.drop (cH ks k).1
def hY (ks:List ByteArray) (vs:List β) (k:ByteArray) (v:β):List β:=if (cH ks k).2=true then vs.set (cH ks k).1 v else vs.take (cH ks k).1++v::vs.drop (cH ks k).1
def gZ (ks:List ByteArray) (k:ByteArray):List ByteArray:=if (cH ks k).2=true then ks.eraseIdx (cH ks k).1 else ks
def iN (ks:List ByteArray) (vs:List β) (k:ByteArray):List β:=if (cH ks k).2=true then vs.eraseIdx (cH ks k).1 else vs
end
def tA:dS:=⟨[],⟨0,0,0⟩⟩
def qW (l:List bT) (s:bT) (most:Int):List bT × Int:=
 if (eV l s.id).2=true then (l.set (eV l s.id).1 s,0) else if most≤(l.length:Int) then (l,2) else (l.take (eV l s.id).1++s::l.drop (eV l s.id).1,0)
def uN (l:List bT) (q til:Int):List bT × Int:=
 if (eV l q).2=true then ((match l[(eV l q).1]? with|some x=>l.set (eV l q).1 { x with til:=max x.til til }|none=>l),0) else (l,3)
def rZ (l:List bT) (q:Int):List bT × Int:=if (eV l q).2=true then (l.eraseIdx (eV l q).1,0) else (l,3)
def J9 (a b:bT):Bool:=decide (b.prio<a.prio)||decide (a.prio=b.prio∧a.id<b.id)
def qA (a:bT × Nat) (s:bT):bT × Nat:=(if a.2=0∨J9 s a.1=true then s else a.1,a.2+1)
def p9 (l:List bT) (now:Int):bT × Nat:=(l.filter (live now)).foldl qA (⟨0,0,0,0⟩,0)
def dU (l:List bT) (now:Int):q7:=⟨(p9 l now).1.status,(p9 l now).1.prio,((p9 l now).2:Int)⟩
def d9 (b:dV) (u:ByteArray):dS:=(lL b.keys b.vals u tA).1
def FF (b:dV) (u:ByteArray) (e:dS):dV:=⟨gG b.keys u,hY b.keys b.vals u e⟩
def G9 (b:dV) (u:ByteArray):dV:=⟨gZ b.keys u,iN b.keys b.vals u⟩
def settle (b:dV) (u:ByteArray) (l:List bT) (now:Int):dV × List gB:=
 (if l=[] then G9 b u else FF b u ⟨l,dU l now⟩,if dU l now=(d9 b u).told then [] else [⟨u,(d9 b u).told,dU l now⟩])
def vM (l:List bT) (x:dE) (now most:Int):List bT × Int:=
 if x.kind=1 then qW l ⟨x.id,x.status,x.prio,d8 now x.ttl⟩ most else if x.kind=2 then uN l x.id (d8 now x.ttl) else if x.kind=3 then rZ l x.id else (l,0)
def f6 (b:dV) (x:dE) (now most:Int):dV × List gB × Int:=
 let r:=vM ((d9 b x.user).sessions.filter (live now)) x now most
 ((settle b x.user r.1 now).1,(settle b x.user r.1 now).2,r.2)
def zP (now:Int) (a:dV × List gB) (p:ByteArray × dS):dV × List gB:=
 ((settle a.1 p.1 (p.2.sessions.filter (live now)) now).1,a.2++(settle a.1 p.1 (p.2.sessions.filter (live now)) now).2)
def f5 (b:dV) (now:Int):dV × List gB:=(b.keys.zip b.vals).foldl (zP now) (b,[])
def pN (b:dV) (n m:Nat):Prop:=b.keys.length=b.vals.length∧b.keys.length≤n∧∀e∈b.vals,e.sessions.length≤m
theorem pN.mono {b:dV} {n m n' m' : Nat} (h:pN b n m) (hn:n≤n') (hm:m≤m'):pN b n' m' := ⟨h.1,aP8 h.2.1 hn,fun e he=>aP8 (h.2.2 e he) hm⟩
theorem LV {α:Type} {l:List α} {i:Nat} {a x:α} (h:x∈l.set i a):x=a∨x∈l:=(List.mem_or_eq_of_mem_set h).symm
theorem Ws {b:dV} {n m:Nat} (h:pN b n m) (u:ByteArray) {e:dS} (he:e.sessions.length≤m):pN (FF b u e) (n+1) m:=by
 obtain⟨h1,h2,h3⟩:=h;have hi:=B6 b.keys u;unfold FF gG hY pN;by_cases hf:(cH b.keys u).2=true
 ·simp only[if_pos hf];refine⟨by rw[aQZ];exact h1,by omega,fun x hx=>?_⟩;rcases LV hx with rfl|hx
  ·exact he
  exact h3 x hx
 simp only[if_neg hf];refine⟨?_,?_,fun x hx=>?_⟩
 ·simp only[aQE,aQD,aQH,aQT];omega
 ·simp only[aQE,aQD,aQH,aQT];omega
 rcases aQX.1 hx with hx|hx
 ·exact h3 x (List.mem_of_mem_take hx)
 rcases aRO.1 hx with rfl|hx
 ·exact he
 exact h3 x (aSR hx)
theorem Wp {b:dV} {n m:Nat} (h:pN b n m) (u:ByteArray):pN (G9 b u) n m:=by
 obtain⟨h1,h2,h3⟩:=h;unfold G9 gZ iN pN;by_cases hf:(cH b.keys u).2=true
 ·simp only[if_pos hf];refine⟨?_,?_,fun x hx=>h3 x (aTW hx)⟩
  ·rw[aSF,aSF,h1]
  rw[aSF];split<;>omega
 simp only[if_neg hf];exact⟨h1,h2,h3⟩
theorem Ss {b:dV} {n m:Nat} (h:pN b n m) (u:ByteArray) {l:List bT} (hl:l.length≤m) (now:Int):pN (settle b u l now).1 (n+1) m:=by
 unfold settle;simp only;split
 ·exact (Wp h u).mono (aQI _) (aP9 _)
 exact Ws h u hl
theorem Gi (b:dV) (u:ByteArray) (l:List bT) (now:Int):(settle b u l now).2.length≤1:=by
 unfold settle;simp only;split<;>simp
def oU (b:dV) (now:Int) (i:Nat):dV × List gB:=((b.keys.zip b.vals).take i).foldl (zP now) (b,[])
theorem VX {b:dV} {n m:Nat} (h:pN b n m) (now:Int):∀i,pN (oU b now i).1 (n+i) m∧(oU b now i).2.length≤i
 | 0=>⟨h,aP9 _⟩
 | i+1=>by
  have ih:=VX h now i;by_cases hi:i<(b.keys.zip b.vals).length
  ·have e:oU b now (i+1)=zP now (oU b now i) (b.keys.zip b.vals)[i]:=by
    unfold oU;rw[aQY hi,aRF];rfl
   rw[e];have hx:((b.keys.zip b.vals)[i].2.sessions.filter (live now)).length≤m:=aP8 (aRA _ _) (h.2.2 _ (aSS (aQN hi)).2);unfold zP;refine⟨Ss ih.1 _ hx now,?_⟩;have:=Gi (oU b now i).1 (b.keys.zip b.vals)[i].1 ((b.keys.zip b.vals)[i].2.sessions.filter (live now)) now;simp only[aQE];omega
  ·have e:oU b now (i+1)=oU b now i:=by
    unfold oU;rw[aR0 aTZ,aR0 aTZ]
   rw[e];exact⟨ih.1.mono aTZ (aP9 _),by omega⟩
theorem Gw {b:dV} {now:Int} {i:Nat} (h1:i<b.keys.length) (h2:i<b.vals.length):oU b now (i+1)=zP now (oU b now i) (b.keys[i],b.vals[i]):=by
 have hi:i<(b.keys.zip b.vals).length:=by
  rw[List.length_zip];omega
 unfold oU;rw[aQY hi,aRF,List.getElem_zip];rfl
theorem PY {b:dV} (now:Int) {n:Nat} (h:b.keys.length≤n):oU b now n=f5 b now:=by
 unfold oU f5;rw[aR0 (by rw[List.length_zip];omega)]
theorem uD {α:Type} {l:List α} {x:α} (h:x∈l):∃i:Nat,l[i]?=some x:=by
 obtain⟨i,hi,rfl⟩:=aRT h;exact⟨i,aQA hi⟩
theorem KY {ks:List ByteArray} (h:KS ks) (k:ByteArray):(cH ks k).2=true↔k∈ks:=
 ⟨fun e=>aQL (B7 e).2,fun e=>by
  obtain⟨i,hi⟩:=uD e
  exact (SL h hi).2⟩
theorem Eh {ks:List ByteArray} (h:KS ks) {k:ByteArray} (hk:k∈ks):gG ks k=ks:=by
 unfold gG;rw[if_pos ((KY h k).2 hk)]
theorem aH2 {ks:List ByteArray} (k x:ByteArray):x∈gG ks k↔x∈ks∨(x=k∧(cH ks k).2=false)∨(x=k∧x∈ks):=by
 unfold gG;cases e:(cH ks k).2
 ·rw[if_neg aT0];simp only[aQX,aRO,and_true];constructor
  ·rintro (h|h|h)
   ·exact .inl (List.mem_of_mem_take h)
   ·exact .inr (.inl h)
   exact .inl (aSR h)
  rintro (h|h|h)
  ·rw[←aSA (cH ks k).1 ks]at h;rcases aQX.1 h with h|h
   ·exact .inl h
   exact .inr (.inr h)
  ·exact .inr (.inl h)
  exact .inr (.inl h.1)
 rw[if_pos rfl];simp only[Bool.true_eq_false,and_false,false_or];constructor
 ·exact .inl
 rintro (h|h)
 ·exact h
 exact h.2
theorem U3 {ks:List ByteArray} (h:KS ks) (k:ByteArray):KS (gG ks k):=by
 unfold gG;split
 ·exact h
 rename_i hn;obtain⟨h1,h2⟩:=Y9 h k;have bR:∀x∈ks,x≠k:=fun x hx e=>hn ((KY h k).2 (e ▸ hx))
 have LQ:∀x∈ks.take (cH ks k).1,iZ x k=true:=fun x hx=>by
  obtain⟨i,hi,rfl⟩:=aRT hx;rw[aQD]at hi;rw[List.getElem_take];exact h1 i _ (aQA aTZ) aTZ
 have hdr:∀x∈ks.drop (cH ks k).1,iZ k x=true:=fun x hx=>by
  have hm:=aSR hx;obtain⟨i,hi,rfl⟩:=aRT hx;rw[aQT]at hi;rw[List.getElem_drop]at hm ⊢;exact aMK (h2 _ _ (aQA aTZ) (aSH _ _)) (bR _ hm)
 refine aRR.2 ⟨h.sublist (List.take_sublist _ _),aTF.2 ⟨hdr,h.sublist (List.drop_sublist _ _)⟩,fun x hx y hy=>?_⟩;rcases aRO.1 hy with rfl|hy
 ·exact LQ x hx
 exact Fw (LQ x hx) (hdr y hy)
theorem Eg {ks:List ByteArray} (h:KS ks) (k:ByteArray):KS (gZ ks k):=by
 unfold gZ;split
 ·exact h.sublist (List.eraseIdx_sublist _ _)
 exact h
theorem Oq (ks:List ByteArray) (k:ByteArray):(gZ ks k).length≤ks.length:=by
 unfold gZ;split
 ·exact (List.eraseIdx_sublist _ _).length_le
 exact aP9 _
theorem aHZ {ks:List ByteArray} {k x:ByteArray} (hx:x∈ks) (bR:x≠k):x∈gZ ks k:=by
 unfold gZ;split
 ·rename_i hf;obtain⟨h1,h2⟩:=B7 hf;obtain⟨i,hi⟩:=uD hx;refine List.mem_eraseIdx_iff_getElem?.2 ⟨i,fun e=>?_,hi⟩;subst e;rw[h2]at hi;exact bR (aQB hi).symm
 exact hx
theorem KS.inj {ks:List ByteArray} (h:KS ks) {i j:Nat} {x:ByteArray} (hi:ks[i]?=some x) (hj:ks[j]?=some x):i=j:=by
 rcases aTT i j with e|e|e
 ·have:=h.lt hi hj e;rw[GN]at this;cases this
 ·exact e
 have:=h.lt hj hi e;rw[GN]at this;cases this
theorem Gh {b:dV} (h:KS b.keys) (u:ByteArray) (l:List bT) (now:Int):KS (settle b u l now).1.keys:=by
 unfold settle;simp only;split
 ·exact Eg h u
 exact U3 h u
theorem aM6 {b:dV} (h:KS b.keys) {u:ByteArray} (hu:u∈b.keys) (l:List bT) (now:Int):(settle b u l now).1.keys.length≤b.keys.length:=by
 unfold settle;simp only;split
 ·exact Oq _ _
 show (gG b.keys u).length≤_;rw[Eh h hu];exact aP9 _
theorem aM5 {b:dV} (h:KS b.keys) {u x:ByteArray} (hu:u∈b.keys) (hx:x∈b.keys) (bR:x≠u) (l:List bT) (now:Int):x∈(settle b u l now).1.keys:=by
 unfold settle;simp only;split
 ·exact aHZ hx bR
 show x∈gG b.keys u;rw[Eh h hu];exact hx
theorem Tf {b:dV} (h:KS b.keys) (hl:b.keys.length=b.vals.length) (now:Int):∀i,i≤b.keys.length→KS (oU b now i).1.keys∧(oU b now i).1.keys.length≤b.keys.length∧∀j x,i≤j→b.keys[j]?=some x→x∈(oU b now i).1.keys
 | 0,_=>⟨h,aP9 _,fun j x _ hx=>aQL hx⟩
 | i+1,hi=>by
  obtain⟨g1,g2,g3⟩:=Tf h hl now i aTZ;rw[Gw aTZ aTZ];have hu:=g3 i _ (aP9 _) (aQA (show i<b.keys.length by omega));refine⟨Gh g1 _ _ _,aP8 (aM6 g1 hu _ _) g2,fun j x hj hx=>?_⟩;refine aM5 g1 hu (g3 j x aTZ hx) (fun e=>?_) _ _;subst e;have:=h.inj hx (aQA (show i<b.keys.length by omega));omega
theorem Wq {b:dV} (h:KS b.keys) (hl:b.keys.length=b.vals.length) (now:Int):KS (f5 b now).1.keys∧(f5 b now).1.keys.length≤b.keys.length:=by
 have:=Tf h hl now b.keys.length (aP9 _);rw[PY now (aP9 _)]at this;exact⟨this.1,this.2.1⟩
structure iD where
 room:Int
 l:List cI
 lost:Bool
def pK (r:iD) (x:cI):iD:=if r.room≤(r.l.length:Int) then { r with lost:=true } else { r with l:=r.l++[x] }
def MC (r:iD):iD:=⟨r.room,[],false⟩
def Og (m who:Int):Int:=m.fdiv (2^min who.toNat IntKind.u32.bits)
def Dw (m who:Int):Bool:=decide (M4 .u32 (Og m who) 1=1)
def UW (who:Int):Int:=IntKind.u32.wrap (1*2^min who.toNat IntKind.u32.bits)
def C1 (m who:Int):Int:=Q1 .u32 m (UW who)
def vJ (m who:Int):Int:=BS .u32 m (UW who)
def wQ (who:Int):Bool:=decide (0≤who∧who<8)
structure eN where
 ks:List ByteArray
 vs:List Int
 q:Nat→iD
def jJ (f:eN) (u:ByteArray):Int:=(lL f.ks f.vs u 0).1
def kK (f:eN) (who:Int) (u:ByteArray):Bool:=wQ who&&Dw (jJ f u) who
def oD (f:eN) (who:Int) (u:ByteArray):eN:=if wQ who=false then f else { f with ks:=gG f.ks u,vs:=hY f.ks f.vs u (C1 (jJ f u) who) }
def m6 (f:eN) (who:Int) (u:ByteArray):eN:=
 if wQ who=false∨jJ f u=0 then f
 else if vJ (jJ f u) who=0 then { f with ks:=gZ f.ks u,vs:=iN f.ks f.vs u }
 else { f with ks:=gG f.ks u,vs:=hY f.ks f.vs u (vJ (jJ f u) who) }
def tE (q:Nat→iD) (k:Nat) (r:iD):Nat→iD:=fun i=>if i=k then r else q i
def kJ (c:gB) (seq:Int):cI:=⟨c.user,c.old,c.new,seq⟩
def JL (f:eN) (c:gB) (seq:Int) (q:Nat→iD) (who:Nat):Nat→iD:=if kK f (who:Int) c.user=true then tE q who (pK (q who) (kJ c seq)) else q
def r7 (f:eN) (c:gB) (seq:Int) (q:Nat→iD) (w:Nat):Nat→iD:=((List.range 8).take w).foldl (JL f c seq) q
def vS (f:eN) (seq:Int) (q:Nat→iD) (c:gB):Nat→iD:=r7 f c seq q 8
def l2 (f:eN) (l:List gB) (seq:Int):eN:={ f with q:=l.foldl (vS f seq) f.q }
def w7 (q:Nat→iD):Prop:=∀k,k<8→(q k).room≤100000∧(q k).l.length≤100000
theorem aLC {r:iD} (x:cI) (h:r.room≤100000∧r.l.length≤100000):(pK r x).room≤100000∧(pK r x).l.length≤100000:=by
 unfold pK;split
 ·exact h
 refine⟨h.1,?_⟩;simp only[aQE,aQH,aQO];omega
theorem w7.set {q:Nat→iD} (h:w7 q) (k:Nat) {r:iD} (hr:r.room≤100000∧r.l.length≤100000):w7 (tE q k r):=fun i hi=>by
 unfold tE;split
 ·exact hr
 ·exact h i hi
theorem Hh (f:eN) (c:gB) (seq:Int) (q:Nat→iD) {w:Nat} (hw:w<8):r7 f c seq q (w+1)=JL f c seq (r7 f c seq q w) w:=by
 unfold r7;rw[aQY (by simpa using hw),aRF,List.getElem_range];rfl
def xA (f:eN) (who:Nat):eN:={ f with q:=tE f.q who (MC (f.q who)) }
structure oY where
 latch:Int
 cv:Int
 cb:Int
 snap:dV
 book:dV
 fp:Nat
structure bF where
 cfg:cY
 time:mZ
 strs:List oY
 acts:List (Int × Int × Int)
 feed:Nat→eN
def uE:dV:=⟨[],[]⟩
def Uu:oY:=⟨0,0,0,uE,uE,0⟩
def aR (h:bF) (s:Nat):oY:=h.strs.getD s Uu
def dM (h:bF) (who kind place:Int):bF:={ h with acts:=h.acts++[(who,kind,place)] }
def gP (h:bF) (s:Nat) (x:oY):bF:={ h with strs:=h.strs.set s x }
def eE (s:Nat) (w:Int):Int:=4*(s:Int)+w
def K8 (h:bF) (who:Int):bF:=dM h who 3 0
def pR (h:bF) (who:Int):bF:={ dM h who 4 0 with time:=⟨h.time.now,d8 h.time.seq 1,h.time.closed⟩ }
def ZT (h:bF) (who by_:Int):bF:={ dM h who 4 0 with time:=⟨d8 h.time.now by_,h.time.seq,h.time.closed⟩ }
def S2 (h:bF) (who:Int):bF:={ dM h who 4 0 with time:=⟨h.time.now,h.time.seq,true⟩ }
def SZ (h:bF) (s:Nat):Bool:=decide ((aR h s).latch=0)
def jC (h:bF) (who:Int) (s:Nat):bF × Bool:=
 if (pX (aR h s).latch who).2=true then (gP (dM h who 5 (eE s 1)) s { aR h s with latch:=(pX (aR h s).latch who).1 },true) else (h,false)
def jE (h:bF) (who:Int) (s:Nat):bF × Bool:=
 if (pW (aR h s).latch who).2=true then (gP (dM h who 6 (eE s 1)) s { aR h s with latch:=(pW (aR h s).latch who).1 },true) else (h,false)
def SY (h:bF) (who:Int) (s:Nat):bF:=dM h who 3 (eE s 2)
def SU (h:bF) (who:Int) (s:Nat):bF:=gP (dM h who 4 (eE s 2)) s { aR h s with cv:=BU (aR h s).cv (aR h s).cb }
def SX (h:bF) (who:Int) (s:Nat):bF:=gP (dM h who 4 (eE s 2)) s { aR h s with cv:=DS (aR h s).cv }
def Z0 (h:bF) (who:Int) (s:Nat):bF:=dM h who 3 (eE s 3)
def ZV (h:bF) (who:Int) (s:Nat):bF:=dM h who 1 (eE s 4)
def S1 (h:bF) (who:Int) (s:Nat):bF:=gP (dM (dM h who 1 (eE s 4)) who 4 (eE s 3)) s { aR h s with snap:=(aR h s).book }
def jK (h:bF) (who:Int) (s:Nat):bF:=dM h who 2 (eE s 4)
def iK (q:Nat→eN) (k:Nat) (r:eN):Nat→eN:=fun i=>if i=k then r else q i
def B9 (h:bF) (who s:Nat):bF:={ jK h who s with feed:=iK h.feed s (xA (h.feed s) who) }
def N3 (h:bF) (who:Int) (s:Nat) (u:ByteArray) (on:Bool):bF:={ jK h who s with feed:=iK h.feed s (if on=true then oD (h.feed s) who u else m6 (h.feed s) who u) }
def k7 (h:bF) (who:Int) (s:Nat) (x:dE) (t:mZ):bF × Int:=
 if t.closed=true then (jK h who s,5)
 else
  let r:=f6 (aR h s).book x t.now h.cfg.sessions
  ({ gP (jK h who s) s { aR h s with book:=r.1 } with feed:=iK h.feed s (l2 (h.feed s) r.2.1 t.seq) },r.2.2)
def HT (h:bF) (who:Int) (s:Nat) (t:mZ):bF:=
 let r:=f5 (aR h s).book t.now
 { gP (jK h who s) s { aR h s with book:=r.1 } with feed:=iK h.feed s (l2 (h.feed s) r.2 t.seq) }
inductive BQ where
 | bad
 | wr (x:dE)
 | sw
structure fE where
 who:Int
 s:Nat
 act:BQ
 at_:Nat
 time:mZ
 placed:Int
 err:Int
def nC:BQ→Bool
 | .bad=>true
 | _=>false
def E3 (p:fE):Int:=if nC p.act=true∨0<p.at_ then -1 else (p.s:Int)
def lC (p:fE):Bool:=decide (7≤p.at_)
def j6 (h:bF) (p:fE):Bool:=!lC p&&(decide (E3 p<0)||SZ h p.s)
def DH:mZ:=⟨0,0,false⟩
def GQ (who:Int) (s:Nat) (x:dE):fE:=⟨who,s,if dH x=true then .bad else .wr x,0,DH,-1,0⟩
def jV (h:bF) (p:fE):Nat→bF × fE
 | 0=>((jC h p.who p.s).1,p)
 | 1=>(SU h p.who p.s,p)
 | 2=>(pR h p.who,{ p with time:=(pR h p.who).time })
 | 3=>match p.act with
  | .bad=>(h,p)
  | .wr x=>((k7 h p.who p.s x p.time).1,{ p with err:=(k7 h p.who p.s x p.time).2 })
  | .sw=>(HT h 8 p.s p.time,{ p with err:=0 })
 | 4=>(S1 h p.who p.s,p)
 | 5=>(SX h p.who p.s,p)
 | _=>((jE h p.who p.s).1,p)
def dQ (h:bF) (p:fE) (pos:Int):bF × fE:=
 if j6 h p=false then (h,p)
 else if nC p.act=true then (h,{ p with err:=1,placed:=pos,at_:=7 })
 else
  let p1:=if p.at_=2 then { p with placed:=pos } else p
  ((jV h p1 p.at_).1,{ (jV h p1 p.at_).2 with at_:=p.at_+1 })
def oN (l:List (List cI)) (a:List Nat) (i:Nat):Option cI:=(l.getD i [])[a.getD i 0]?
def EP (l:List (List cI)) (a:List Nat) (b:Option Nat) (i:Nat):Option Nat:=match oN l a i with
 | none=>b
 | some e=>match b with
  | none=>some i
  | some j=>match oN l a j with
   | some f=>if e.seq<f.seq then some i else some j
   | none=>some j
def nB (l:List (List cI)) (a:List Nat) (n:Nat):Option Nat:=(List.range n).foldl (EP l a) none
def sZ:List (List cI)→List Nat→Nat
 | x::l,a::az=>(x.length-a)+sZ l az
 | _,_=>0
def xR:Nat→List (List cI)→List Nat→List cI→List cI
 | 0,_,_,o=>o
 | f+1,l,a,o=>match nB l a l.length with
  | none=>o
  | some j=>xR f l (a.set j (a.getD j 0+1)) (o++(oN l a j).toList)
def y6 (l:List (List cI)):Nat:=sZ l (List.replicate l.length 0)
def tM (l:List (List cI)):List cI:=xR (y6 l+1) l (List.replicate l.length 0) []
def bI:Option Nat→Int
 | none=>-1
 | some j=>(j:Int)
theorem J6 {o:Option Nat} (h:bI o<0):o=none:=by
 cases o with
 | none=>rfl
 | some j=>simp[bI]at h;omega
theorem J7 {o:Option Nat} (h:¬bI o<0):∃j,o=some j:=by
 cases o with
 | none=>simp[bI]at h
 | some j=>exact⟨j,rfl⟩
theorem IX (l:List (List cI)) (a:List Nat) (n:Nat):nB l a (n+1)=EP l a (nB l a n) n:=by
 unfold nB;rw[aS7,aRF];rfl
theorem EO {l:List (List cI)} {a:List Nat}:∀{n j:Nat},nB l a n=some j→j<n∧∃e,oN l a j=some e
 | 0,j,h=>by cases h
 | n+1,j,h=>by
  rw[IX]at h;unfold EP at h
  cases hn:oN l a n with
  | none=>
   rw[hn]at h;have:=EO h;exact⟨by omega,this.2⟩
  | some e=>
   rw[hn]at h
   cases hb:nB l a n with
   | none=>
    rw[hb]at h;obtain rfl:=aQB h;exact⟨aSW _,e,hn⟩
   | some i=>
    rw[hb]at h;obtain⟨h1,f,h2⟩:=EO hb;simp only[h2]at h;split at h
    ·obtain rfl:=aQB h;exact⟨aSW _,e,hn⟩
    ·obtain rfl:=aQB h;exact⟨by omega,f,h2⟩
theorem aG7 {l:List (List cI)} {a:List Nat} {i:Nat} (h:a.getD i 0<(l.getD i []).length):∃e,oN l a i=some e:=⟨_,aQA h⟩
theorem aG6 {l:List (List cI)} {a:List Nat} {i:Nat} (h:¬a.getD i 0<(l.getD i []).length):oN l a i=none:=aRJ aTZ
theorem Oc {l:List (List cI)} {a:List Nat} {i:Nat} {e:cI} (h:oN l a i=some e):a.getD i 0<(l.getD i []).length:=(aQG.1 h).1
theorem UZ:∀{l:List (List cI)} {a:List Nat} {j:Nat},a.length=l.length→j<l.length→a.getD j 0<(l.getD j []).length→sZ l (a.set j (a.getD j 0+1))+1=sZ l a
 | [],_,_,_,h,_=>absurd h (aQW _)
 | x::l,[],_,h,_,_=>by cases h
 | x::l,a::az,0,_,_,h=>by
  simp only[List.getD_cons_zero,List.set_cons_zero,sZ]at h ⊢;omega
 | x::l,a::az,j+1,h1,h2,h3=>by
  simp only[aQH,Nat.add_right_cancel_iff,Nat.add_lt_add_iff_right]at h1 h2;simp only[List.getD_cons_succ,List.set_cons_succ,sZ]at h3 ⊢;have:=UZ h1 h2 h3;omega
theorem Oh:∀{l:List (List cI)} {j:Nat},j<l.length→(l.getD j []).length≤y6 l
 | [],_,h=>absurd h (aQW _)
 | x::l,0,_=>by
  simp only[y6,aQH,List.replicate_succ,sZ,List.getD_cons_zero];omega
 | x::l,j+1,h=>by
  have:=Oh (l:=l) (j:=j) aU7;simp only[y6,aQH,List.replicate_succ,sZ,List.getD_cons_succ]at this ⊢;omega
theorem UX {f:Nat} {l:List (List cI)} {a:List Nat} {o:List cI} (h:nB l a l.length=none):xR f l a o=o:=by
 cases f with
 | zero=>rfl
 | succ f=>simp only[xR,h]
theorem UY {f:Nat} {l:List (List cI)} {a:List Nat} {o:List cI} {j:Nat} {e:cI} (h:nB l a l.length=some j) (he:oN l a j=some e):xR (f+1) l a o=xR f l (a.set j (a.getD j 0+1)) (o++[e]):=by
 simp only[xR,h,he];rfl
theorem XM:El 3 1 8 (O 0):=⟨by kernel_rfl,rfl⟩
theorem el4:El 4 1 1 (.bool false):=⟨by kernel_rfl,rfl⟩
theorem NA:El 9 1 16 (.string ⟨#[]⟩):=⟨by kernel_rfl,rfl⟩
theorem zr9:Zr 9 (.string ⟨#[]⟩) [.string ⟨#[]⟩]:=⟨Tryz.zeroValue9,rfl⟩
theorem Yf:El 22 1 8 (U 0):=⟨by kernel_rfl,rfl⟩
theorem XN:El 48 1 24 (.slice none 0 0):=⟨by kernel_rfl,rfl⟩
theorem XO:El 53 1 8 (.pointer none):=⟨by kernel_rfl,rfl⟩
theorem XP:El 56 7 80 (.agg #[O 0,.string ⟨#[]⟩,O 0,O 0,O 0,U 0,.slice none 0 0]):=⟨by kernel_rfl,rfl⟩
theorem XQ:El 61 18 200 (.agg #[O 0,O 0,O 0,.string ⟨#[]⟩,O 0,O 0,O 0,U 0,.slice none 0 0,O 0,U 0,O 0,O 0,O 0,O 0,.slice none 0 0,.slice none 0 0,.bool false]):=⟨by kernel_rfl,rfl⟩
theorem BY:El 72 3 24 (.agg #[O 0,O 0,O 0]):=⟨by kernel_rfl,rfl⟩
theorem m0:El 74 8 72 (.agg #[.string ⟨#[]⟩,O 0,O 0,O 0,O 0,O 0,O 0,U 0]):=⟨by kernel_rfl,rfl⟩
theorem Yi:El 78 3 24 (.agg #[O 0,O 0,U 0]):=⟨by kernel_rfl,rfl⟩
theorem Yj:El 86 1 24 (.slice none 0 0):=⟨by kernel_rfl,rfl⟩
theorem KG:El 108 1 8 (.pointer none):=⟨by kernel_rfl,rfl⟩
theorem RN:El 125 5 64 (.agg #[.string ⟨#[]⟩,.slice none 0 0,O 0,O 0,O 0]):=⟨by kernel_rfl,rfl⟩
theorem Ye:El 128 7 64 (.agg #[.string ⟨#[]⟩,O 0,O 0,O 0,O 0,O 0,O 0]):=⟨by kernel_rfl,rfl⟩
theorem BX:El 134 4 32 (.agg #[O 0,O 0,O 0,U 0]):=⟨by kernel_rfl,rfl⟩
theorem XJ:El 140 2 24 (.agg #[O 0,.string ⟨#[]⟩]):=⟨by kernel_rfl,rfl⟩
theorem RO:El 157 8 128 (.agg #[O 0,U 0,U 0,.slice none 0 0,.slice none 0 0,.slice none 0 0,.slice none 0 0,.pointer none]):=⟨by kernel_rfl,rfl⟩
theorem Yg:El 222 3 24 (.agg #[O 0,O 0,O 0]):=⟨by kernel_rfl,rfl⟩
theorem XK:El 228 4 48 (.agg #[.slice none 0 0,O 0,O 0,O 0]):=⟨by kernel_rfl,rfl⟩
theorem Jm:El 230 7 64 (.agg #[.string ⟨#[]⟩,O 0,O 0,O 0,O 0,O 0,O 0]):=⟨by kernel_rfl,rfl⟩
theorem Yh:El 235 2 16 (.agg #[O 0,.nilFunc]):=⟨by kernel_rfl,rfl⟩
theorem XL:El 253 1 4 (.int .u32 0):=⟨by kernel_rfl,rfl⟩
theorem aPU:Zr 253 (.int .u32 0) [.int .u32 0]:=⟨Tryz.zeroValue253,rfl⟩
section
variable {α:Type} {d:Kn α} {t t' : TW} {T:bB→Prop} {g:bB} {B e:Nat} {xs ys:List α} {cs news:List Value}
def Cs (d:Kn α) (t:TW) (cs:List Value) (xs:List α):Prop:=∀i x,xs[i]?=some x→d.R t x (fJ cs d.k i)
theorem Cs.step (h:Cs d t cs xs) (s:bQ T t t') (hT:¬T .fz):Cs d t' cs xs:=fun i x hi=>d.stp s hT (h i x hi)
theorem Cs.n (h:Cs d t cs xs) (s:bQ T t t') (hT:¬T .fz:=by first|exact id|nofun|(rintro (h|h)<;>cases h)|(rintro (h|h|h)<;>cases h)):Cs d t' cs xs:=h.step s hT
theorem Cs.take (h:Cs d t cs xs) (n:Nat):Cs d t cs (xs.take n):=fun i x hi=>by
 rw[aQ9]at hi;split at hi
 ·exact h i x hi
 ·cases hi
theorem lB {o:Nat} (h:o+news.length≤cs.length):(put cs o news).length=cs.length:=by
 unfold put;rw[aQE,aQE,aQD,aQT];omega
theorem Sg {k i j:Nat} (xL:i<j) (hf:j*k≤cs.length):fJ (put cs (j*k) news) k i=fJ cs k i:=by
 have h1:(i+1)*k≤j*k:=aQM _ xL;rw[aQ0]at h1;unfold fJ put;rw[aQ6,List.drop_append_of_le_length aUA,aST (by rw[aQT,aQD];omega),aTC,aSG];congr 1;omega
theorem aMW {k i j m:Nat} (hn:news.length=m*k) (xL:j+m≤i) (hf:j*k≤cs.length):fJ (put cs (j*k) news) k i=fJ cs k i:=by
 have h1:(j+m)*k≤i*k:=aQM _ xL;rw[aQ0]at h1;unfold fJ put;rw[List.drop_append,aS2 aVK,aRB,aTB];congr 2;rw[aQE,aQD];omega
theorem aMX {k i j m:Nat} (hn:news.length=m*k) (h1:j≤i) (h2:i<j+m) (hf:j*k≤cs.length):fJ (put cs (j*k) news) k i=fJ news k (i-j):=by
 have h3:(i+1)*k≤(j+m)*k:=aQM _ h2;have h4:j*k≤i*k:=aQM _ h1;rw[aQ0,aQ0]at h3;unfold fJ put;rw[aQ6,List.drop_append,aS2 aUA,aRB,aQD,aQ3 hf,←Nat.sub_mul,List.drop_append_of_le_length (by rw[hn,Nat.sub_mul];omega),aST (by rw[aQT,hn,Nat.sub_mul];omega)]
theorem Cs.put (h:Cs d t cs xs) {j:Nat} (hE:lZ d t ys news) (hj:j≤xs.length) (hf:j*d.k≤cs.length):Cs d t (X.put cs (j*d.k) news) (xs.take j++ys++xs.drop (j+ys.length)):=fun i x hi=>by
 by_cases h1:i<j
 ·rw[Sg h1 hf];rw[aQ6,aRI aUA,aQ9,if_pos h1]at hi;exact h i x hi
 ·by_cases h2:i<j+ys.length
  ·rw[aMX hE.1 aTZ h2 hf];rw[aRI aVK,aQ7 aUA,aQD,aQ3 hj]at hi;exact hE.2 _ x hi
  ·rw[aMW hE.1 aTZ hf];rw[aQ7 aVK,aRM]at hi;refine h i x ?_;rw[←hi];congr 1;rw[aQE,aQD];omega
theorem Cs.tail (h:Cs d t cs xs) {j:Nat} (hj:xs.length≤j) (hf:j*d.k≤cs.length):Cs d t (X.put cs (j*d.k) news) xs:=fun i x hi=>by
 have:=(aQG.1 hi).1;rw[Sg aTZ hf];exact h i x hi
theorem Cs.part (h:Cs d t cs xs) (hl:xs.length*d.k≤cs.length) (i:Nat) (hi:i≤xs.length):lZ d t (xs.drop i) ((cs.drop (i*d.k)).take ((xs.length-i)*d.k)):=by
 have h4:i*d.k≤xs.length*d.k:=aQM _ hi;refine⟨by rw[aQD,aQT,aQT,Nat.sub_mul];omega,fun j x hj=>?_⟩;rw[aRM]at hj;have aW:=(aQG.1 hj).1
 have e:fJ ((cs.drop (i*d.k)).take ((xs.length-i)*d.k)) d.k j=fJ cs d.k (i+j):=by
  have h5:(i+j+1)*d.k≤xs.length*d.k:=aQM _ aW;unfold fJ;rw[aTC,aSG,aTB,←aQ0];congr 1;rw[aQ0,aQ0]at h5;rw[Nat.sub_mul];omega
 rw[e];exact h _ x hj
theorem yD {b n i k:Nat} (hb:Bk t b cs e g):At t.w b (i*k) ((cs.drop (i*k)).take n):=fun j v hj=>by
 refine hb.cell ?_;rw[aQ9]at hj;split at hj
 ·simpa using hj
 ·cases hj
theorem tK {b cap:Nat} (hb:Bk t b cs e g) (hB:B≤b) (hc:xs.length≤cap) (hs:cs.length=cap*d.k) (hm:cap≤maxLen) (hx:Cs d t cs xs):aZ t g B e d (.slice (some ⟨b,0,none⟩) xs.length cap) xs:=aZ.of_block hb hB hc hs hm hx
theorem aZ.open_ {b len cap:Nat} (h:aZ t g B e d (.slice (some ⟨b,0,none⟩) len cap) xs):∃cs,len=xs.length∧B≤b∧Bk t b cs e g∧xs.length≤cap∧cs.length=cap*d.k∧cap≤maxLen∧Cs d t cs xs:=by
 obtain⟨inner,ho,ht,hx⟩:=h;rcases ho.2 with ⟨h1,_⟩|⟨q,cap', cur,h1,hB,hq,hc,hm,hs,pD⟩
 ·cases h1
 obtain⟨h2,rfl,rfl⟩:=Value.slice.inj h1;obtain⟨rfl,_⟩:=Addr.mk.inj (aQB h2);refine⟨cur.toList,Z,hB,⟨by simpa using hq,ht b (by simp[Value.ownBlock])⟩,hc,by simpa using hs,hm,fun i x hi=>?_⟩;have:=hx i x hi;have aW:=(aQG.1 hi).1
 have e:fJ inner d.k i=fJ cur.toList d.k i:=by
  unfold fJ;rw[←pD,aTC,aSG];congr 1;have:(i+1)*d.k≤xs.length*d.k:=aQM _ aW;rw[aQ0]at this;omega
 rw[←e];exact this
theorem aZ.cases {v:Value} (h:aZ t g B e d v xs):(v=.slice none 0 0∧xs=[])∨∃b cap,v=.slice (some ⟨b,0,none⟩) xs.length cap:=by
 obtain⟨inner,ho,ht,hx⟩:=h;rcases ho.2 with ⟨h1,h2⟩|⟨q,cap', cur,h1,_⟩
 ·exact .inl ⟨h1,aR6 h2⟩
 exact .inr ⟨q,cap', h1⟩
end
section
variable {n:Sz} {E:eI} {dd:Option Nat} {ty:TypeId} {pos:String} {af:Array Edge} {gd:Option (Nat × Bool)} {x y z u:Operand}
theorem QH {q e k len cap b o:Nat} {k1 k2:IntKind} {i j:Int} (h:ev E x=some (.slice (some ⟨b,o,none⟩) len cap)) (hi:ev E y=some (.int k1 i)) (hj:ev E z=some (.int k2 j)) (ht:iQ q e k) (h0:0≤i) (h1:i≤j) (h2:j≤cap) (h3:i<cap) :
  Fr n ⟨dd,.slice q x (some y) (some z) none,ty,pos,af,gd⟩ E (.slice (some ⟨b,o+i.toNat*k,none⟩) (j.toNat-i.toNat) (cap-i.toNat)):=fun a w ha=>by
 have hh:(Instr.sliceBounds true len cap (some (.int k1 i)) (some (.int k2 j)) none).run P w=.ok (i.toNat,j.toNat,cap) w:=by
  simp[Instr.sliceBounds,Instr.sliceBound,asIntOf,h0,h1,h2,show (0:Int)≤j by omega,show i≤max j 0 by omega]
 have bR:¬cap=i.toNat:=by omega
 simp only[execOp,ha.ev h,ha.ev hi,ha.ev hj,Option.map_none,aRV,Instr.sliceAt,Instr.slice,Sem.run_bind,iE ht.1,Result.andThen_ok,hh,ht.2.run,Sem.run_pure,if_neg bR,aRV,sB]
theorem kX {q e k len cap b o:Nat} {kk:IntKind} {i:Int} (h:ev E x=some (.slice (some ⟨b,o,none⟩) len cap)) (hi:ev E y=some (.int kk i)) (ht:iQ q e k) (h0:0≤i) (h1:i≤len) (h2:i<cap) :
  Fr n ⟨dd,.slice q x (some y) none none,ty,pos,af,gd⟩ E (.slice (some ⟨b,o+i.toNat*k,none⟩) (len-i.toNat) (cap-i.toNat)):=by
 have:=BN (n:=n) (dd:=dd) (ty:=ty) (pos:=pos) (af:=af) (gd:=gd) h hi ht h0 h1;rw[if_neg aTZ,aRV,sB]at this;exact this
theorem QG {q e k len cap b o:Nat} {k1 k2 k3:IntKind} {i j m:Int} (h:ev E x=some (.slice (some ⟨b,o,none⟩) len cap)) (hi:ev E y=some (.int k1 i)) (hj:ev E z=some (.int k2 j)) (hm:ev E u=some (.int k3 m)) (ht:iQ q e k) (h0:0≤i) (h1:i≤j) (h2:j≤m) (h3:m≤cap) (h4:i<m) :
  Fr n ⟨dd,.slice q x (some y) (some z) (some u),ty,pos,af,gd⟩ E (.slice (some ⟨b,o+i.toNat*k,none⟩) (j.toNat-i.toNat) (m.toNat-i.toNat)):=fun a w ha=>by
 have hh:(Instr.sliceBounds true len cap (some (.int k1 i)) (some (.int k2 j)) (some (.int k3 m))).run P w=.ok (i.toNat,j.toNat,m.toNat) w:=by
  simp[Instr.sliceBounds,Instr.sliceBound,asIntOf,h0,h1,h2,h3,show (0:Int)≤m by omega,show (0:Int)≤j by omega,show i≤max j 0 by omega,show j≤max m 0 by omega]
 have bR:¬m.toNat=i.toNat:=by omega
 simp only[execOp,ha.ev h,ha.ev hi,ha.ev hj,ha.ev hm,Option.map_none,aRV,Instr.sliceAt,Instr.slice,Sem.run_bind,iE ht.1,Result.andThen_ok,hh,ht.2.run,Sem.run_pure,if_neg bR,aRV,sB]
theorem aL7 {t e:TypeId} (ht:P.underlying t=some (.slice e)) (w:World) (l c:Nat):(Op.equal t (.slice none l c) (.slice none 0 0)).run P w=.ok true w:=by
 have h1:∀k,(Op.equalIn (k+1) t (.slice none l c) (.slice none 0 0)).run P w=.ok true w:=fun k=>by
  simp only[Op.equalIn,Sem.run_bind,iE ht,Result.andThen_ok,Sem.run_pure];rfl
 exact h1 9999
theorem aL8 {t e:TypeId} (ht:P.underlying t=some (.slice e)) (w:World) (A:Addr) (l c:Nat):(Op.equal t (.slice (some A) l c) (.slice none 0 0)).run P w=.ok false w:=by
 have h1:∀k,(Op.equalIn (k+1) t (.slice (some A) l c) (.slice none 0 0)).run P w=.ok false w:=fun k=>by
  simp only[Op.equalIn,Sem.run_bind,iE ht,Result.andThen_ok,Sem.run_pure]
  try rfl
 exact h1 9999
theorem QE {t t' e:TypeId} {l c:Nat} (h:ev E x=some (.slice none l c)) (ht:P.underlying t=some (.slice e)) :
  Fr n ⟨dd,.binOp .eql t x (.const (.slice none 0 0)) t', ty,pos,af,gd⟩ E (.bool true):=x4 h rfl fun w=>by
 have hg:eqGuard .eql t x (.const (.slice none 0 0)) (.slice none l c) (.slice none 0 0)=pure ():=by cases x<;>rfl
 rw[hg,pure_bind];show (do pure (Value.bool (←Op.equal t (.slice none l c) (.slice none 0 0))):Sem Value).run P w=_;rw[Sem.run_bind,aL7 ht];rfl
theorem QF {t t' e:TypeId} {A:Addr} {l c:Nat} (h:ev E x=some (.slice (some A) l c)) (ht:P.underlying t=some (.slice e)) :
  Fr n ⟨dd,.binOp .eql t x (.const (.slice none 0 0)) t', ty,pos,af,gd⟩ E (.bool false):=x4 h rfl fun w=>by
 have hg:eqGuard .eql t x (.const (.slice none 0 0)) (.slice (some A) l c) (.slice none 0 0)=pure ():=by cases x<;>rfl
 rw[hg,pure_bind];show (do pure (Value.bool (←Op.equal t (.slice (some A) l c) (.slice none 0 0))):Sem Value).run P w=_;rw[Sem.run_bind,aL8 ht];rfl
end
section
variable {α:Type} {dk:Kn α} {c:i7} {E:eI} {dd:Option Nat} {ty:TypeId} {pos:String} {af:Array Edge} {gd:Option (Nat × Bool)} {x y:Operand} {v:Value} {t:TW} {g:bB} {B e:Nat} {xs:List α}
theorem P9 {q k b len cap b' o' m cap' : Nat} {cs news:List Value} (h:ev E x=some (.slice (some ⟨b,0,none⟩) len cap)) (h' : ev E y=some (.slice (some ⟨b', o', none⟩) m cap')) (ht:iQ q e k) (hb:Bk t b cs e g) (hn:news.length=m*k) (hA:At t.w b' o' news) (h1:∀u∈news,u.oneCell' = true)
  (UC:len+m≤cap) (hs:cs.length=cap*k) (hT:c.t0.w.heap.size≤b∨c.T g):Ef c ⟨dd,.call { callee:=.builtin .append,args:=#[x,y],argTypes:=#[q,q] },ty,pos,af,gd⟩ E t (fun v' t' => v' = .slice (some ⟨b,0,none⟩) (len+m) cap∧MY t b (put cs (len*k) news) e g t'):=.mk fun fM a ha K Q hk=>by
 have hl:(loadCells ⟨b', o', none⟩ news.length).run P t.w=.ok news.toArray t.w:=run_loadCells_list (P:=P) t.w ⟨b', o', none⟩ news (fun j v hv=>by rw[sB];exact hA j v hv)
 have nS:len*k+news.length≤cs.length:=by
  rw[hs,hn,←aQ0];exact aQM _ UC
 have aM:=run_storeCells_at P b (len*k) e news 0 cs.toArray t.w hb.1 (by simpa using nS) h1;simp only[Nat.add_zero]at aM
 have lK:(Builtin.append_ #[q,q] ty #[.slice (some ⟨b,0,none⟩) len cap,.slice (some ⟨b', o', none⟩) m cap']).run P t.w=.ok (.slice (some ⟨b,0,none⟩) (len+m) cap) (t.set b (put cs (len*k) news)).w:=by
  simp[Builtin.append_,iE ht.1,ht.2.run,Builtin.lenOf,Builtin.firstCells,UC,←hn,hl,sB,aM,TW.set,put]
 unfold Oper.wp
 have:(execOp a.eval ⟨dd,.call { callee:=.builtin .append,args:=#[x,y],argTypes:=#[q,q] },ty,pos,af,gd⟩).run P t.w=.ok (.value (.slice (some ⟨b,0,none⟩) (len+m) cap)) (t.set b (put cs (len*k) news)).w:=by
  simp only[execOp,resolve,invoke,builtin,Sem.run_bind,Sem.run_pure,Result.andThen_ok,aRP,aRC,aS4,ha.ev h,ha.ev h', lK]
 rw[this];have hu:=QT (cs' := put cs (len*k) news) hb;exact hk _ _ (ZD hb hT hu fM) ⟨Z,hu,hu.step hb.2,QS hb⟩
end
end Go.Proofs.YthilcgjhhhmgoaaGreat.X
