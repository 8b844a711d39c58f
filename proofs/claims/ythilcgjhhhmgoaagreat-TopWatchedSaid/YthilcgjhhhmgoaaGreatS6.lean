/- One part of the proof: PStruct2, PErr, PSeq, PWat, PWat2, FLaw6, PWat3, RowTopWatched. No condition beyond those that each theorem names. -/
import Derived.Test.YthilcgjhhhmgoaaGreatS5
set_option linter.unusedVariables false
set_option linter.unusedSimpArgs false
set_option linter.unusedSectionVars false
set_option maxHeartbeats 1000000
namespace Go.Proofs.YthilcgjhhhmgoaaGreat.X
variable {c : Cfg} {h : HallS} {k : Nat}
/-! ### Calls that change -/
theorem modify_at {α : Type} {l : List α} {j m : Nat} {f : α → α} {y : α} (h : (l.modify j f)[m]? = some y) : ∃ z, l[m]? = some z ∧ y = if j = m then f z else z := by
  rw [List.getElem?_modify] at h
  cases e : l[m]? with
  | none => rw [e] at h; cases h
  | some z =>
    rw [e] at h
    exact ⟨z, rfl, by simpa using h.symm⟩
theorem modify_at' {α : Type} {l : List α} {j m : Nat} {f : α → α} {z : α} (h : l[m]? = some z) : (l.modify j f)[m]? = some (if j = m then f z else z) := by
  rw [List.getElem?_modify, h]
  rfl
theorem app_at {α : Type} {l : List α} {m : Nat} {x y : α} (h : (l ++ [x])[m]? = some y) : l[m]? = some y ∨ m = l.length ∧ y = x := by
  by_cases e : m < l.length
  · rw [List.getElem?_append_left e] at h
    exact .inl h
  rw [List.getElem?_append_right (by omega)] at h
  right
  have : m - l.length < [x].length := (List.getElem?_eq_some_iff.1 h).1
  have e2 : m = l.length := by simp at this; omega
  subst e2
  simp at h
  exact ⟨rfl, h.symm⟩
theorem app_old {α : Type} {l : List α} {m : Nat} {x y : α} (h : l[m]? = some y) : (l ++ [x])[m]? = some y := by
  rw [List.getElem?_append_left (List.getElem?_eq_some_iff.1 h).1, h]
theorem app_new {α : Type} (l : List α) (x : α) : (l ++ [x])[l.length]? = some x := by simp
theorem set_at {α : Type} {l : List α} {i m : Nat} {x y : α} (h : (l.set i x)[m]? = some y) : m = i ∧ y = x ∨ m ≠ i ∧ l[m]? = some y := by
  by_cases e : i = m
  · subst e
    have hi : i < l.length := by
      have := (List.getElem?_eq_some_iff.1 h).1
      rwa [List.length_set] at this
    rw [List.getElem?_set_self hi] at h
    exact .inl ⟨rfl, (Option.some.inj h).symm⟩
  rw [List.getElem?_set_ne e] at h
  exact .inr ⟨fun e' => e e'.symm, h⟩
theorem set_at' {α : Type} {l : List α} {i m : Nat} {x y : α} (h : l[m]? = some y) (e : m ≠ i) : (l.set i x)[m]? = some y := by
  rw [List.getElem?_set_ne (fun e' => e e'.symm), h]
def RnK (c : Cfg) (r : RunS) : Prop := ∃ k, HI c r.h k ∧ RnR c r k
structure StI (c : Cfg) (r : RunS) : Prop where
  ci : CI c
  k : RnK c r
  n0 : 0 ≤ r.n
  cur : ∀ (i : Nat) (d : ClientS) (p : ProcS), r.clients[i]? = some d → d.now = some p → 0 ≤ d.call ∧ ∃ x, r.calls[d.call.toNat]? = some x ∧ PB x.began r.n p ∧ x.who = (i : Int) ∧ x.ended = -1 ∧ x.placed = pPlaced p ∧ PM c i x.op p
  open_ : ∀ (j : Nat) (x : CallS), r.calls[j]? = some x → x.who < 8 → x.ended < 0 → ∃ (i : Nat) (d : ClientS), (i : Int) = x.who ∧ r.clients[i]? = some d ∧ d.now ≠ none ∧ d.call = (j : Int)
  bd : ∀ x ∈ r.calls, 0 ≤ x.who ∧ 0 ≤ x.began ∧ x.began ≤ r.n ∧ Pl x.began r.n x.placed ∧ -1 ≤ x.ended ∧ x.ended < r.n
  swc : 0 ≤ r.sweep → ∃ x, r.calls[r.sweep.toNat]? = some x ∧ x.who = 8 ∧ x.ended = -1 ∧ Pl x.began r.n r.sw.now.placed ∧ x.placed = r.sw.now.placed ∧ x.stripe = (r.sw.stripe : Int)
  sww : r.sw.now.who = 8 ∧ r.sw.now.s = r.sw.stripe ∧ r.sw.now.act = .sw
  swn : r.sweep < 0 → r.sw.now = swBegin r.sw.stripe
theorem StI.who8 {r : RunS} (g : StI c r) {i : Nat} {d : ClientS} (h : r.clients[i]? = some d) : i < 8 := by
  obtain ⟨k, _, q⟩ := g.k
  have := (List.getElem?_eq_some_iff.1 h).1
  have := q.nc
  omega
theorem RnK.inc {r : RunS} (g : RnK c r) : RnK c (rInc r) := by
  obtain ⟨k, g, q⟩ := g
  exact ⟨k, g, q.nc, q.cl, q.ca, q.cs, q.st, q.sw, q.rd, q.sv, q.tk, q.sc⟩
theorem rB_eq (r : RunS) (i : Nat) (d : ClientS) : (rB r i d).calls = r.calls ++ [cBeg r ⟨i, d.at_, d.ops.getD d.at_ zOpr, 0, 0, 0, 0, 0, zReply⟩] ∧ (rB r i d).h = r.h ∧ (rB r i d).n = r.n ∧ (rB r i d).sw = r.sw ∧ (rB r i d).sweep = r.sweep ∧ (rB r i d).clients = r.clients.set i (rBeg r i d (d.ops.getD d.at_ zOpr)).2 := ⟨rfl, rfl, rfl, rfl, rfl, rfl⟩
theorem RnK.beg (ci : CI c) {r : RunS} (g : RnK c r) {i : Nat} {d : ClientS} (hd : r.clients[i]? = some d) (h1 : d.now = none) (h2 : d.at_ < d.ops.length) : RnK c (rB r i d) := by
  obtain ⟨k, g, q⟩ := g
  have hb : rBegins d = true := by
    unfold rBegins
    rw [h1, decide_eq_true (by omega)]
    rfl
  obtain ⟨a, b⟩ := rPre_I ci g.cfg q hd
  rw [rPre_yes hb] at a b
  exact ⟨k + 1, g.mono (Nat.le_succ _), a.set i (b.mono (Nat.le_succ _) (Nat.le_refl _))⟩
theorem RnK.move (ci : CI c) {r : RunS} (g : RnK c r) {i : Nat} {d : ClientS} {p : ProcS} (hd : r.clients[i]? = some d) (hn : d.now = some p) : RnK c (rMove r i d p) := by
  obtain ⟨k, g, q⟩ := g
  have m := q.cl d (List.mem_of_getElem? hd)
  have hp := pStep_I ci g d.mine r.n (m.now p hn)
  refine ⟨k + 1, hp.1, (q.mono.modify _ _ (fun x hx => callAt_I hx _ hp.2) _).set i ⟨m.ol, m.op, fun p' h' => ?_, fun h' => ?_⟩⟩
  · simp only at h'
    split at h'
    · cases h'
    obtain rfl := Option.some.inj h'
    exact hp.2
  show 0 ≤ d.call ∧ _ < ((r.calls.modify _ _).length : Int)
  rw [List.length_modify]
  exact m.call (by rw [hn]; exact nofun)
theorem RnK.swb {r : RunS} (g : RnK c r) (hs : r.sweep < 0) : RnK c (rSwBeg r) := by
  obtain ⟨k, g, q⟩ := g
  obtain ⟨e1, e2, e3, e4⟩ := rSwBeg_h r
  refine ⟨k + 1, by rw [e1]; exact g.mono (Nat.le_succ _), ?_⟩
  unfold rSwBeg
  rw [if_pos hs]
  have b := q.began (ca_new opI_z 8 r.sweeps r.sw.stripe 0 0 0 0)
  refine ⟨b.nc, b.cl, b.ca, b.cs, b.st, b.sw, b.rd, ⟨by have := q.sv.1; show 0 ≤ r.sweeps + 1; omega, by have := q.sv.2; show r.sweeps + 1 ≤ _; omega⟩, b.tk, ?_⟩
  show (r.calls.length : Int) < ((rBegan r _).calls.length : Int)
  simp [rBegan]
  omega
theorem swStep_done {p : SwProc} {pos : Int} (hd : wDone (wStep h p.now pos).2 = true) : swStep h p pos = ((wStep h p.now pos).1, ⟨swNext p (wStep h p.now pos).1.cfg.stripes, swRound p (wStep h p.now pos).1.cfg.stripes, swBegin (swNext p (wStep h p.now pos).1.cfg.stripes)⟩, true) := by
  unfold swStep
  dsimp only
  rw [if_pos hd]
theorem swStep_on {p : SwProc} {pos : Int} (hd : wDone (wStep h p.now pos).2 = false) : swStep h p pos = ((wStep h p.now pos).1, { p with now := (wStep h p.now pos).2 }, false) := by
  unfold swStep
  dsimp only
  rw [if_neg (by rw [hd]; decide)]
theorem rSwMove_done {r : RunS} (hd : wDone (wStep r.h r.sw.now r.n).2 = true) : rSwMove r = { r with h := (wStep r.h r.sw.now r.n).1, sw := ⟨swNext r.sw (wStep r.h r.sw.now r.n).1.cfg.stripes, swRound r.sw (wStep r.h r.sw.now r.n).1.cfg.stripes, swBegin (swNext r.sw (wStep r.h r.sw.now r.n).1.cfg.stripes)⟩, sweep := -1, calls := r.calls.modify r.sweep.toNat fun x => { x with ended := r.n } } := by
  unfold rSwMove
  rw [swStep_done hd]
  rfl
theorem rSwMove_on {r : RunS} (hd : wDone (wStep r.h r.sw.now r.n).2 = false) : rSwMove r = { r with h := (wStep r.h r.sw.now r.n).1, sw := { r.sw with now := (wStep r.h r.sw.now r.n).2 }, calls := r.calls.modify r.sweep.toNat fun x => { x with placed := (wStep r.h r.sw.now r.n).2.placed } } := by
  unfold rSwMove
  rw [swStep_on hd]
  rfl
theorem RnK.swm (ci : CI c) {r : RunS} (g : RnK c r) : RnK c (rSwMove r) := by
  obtain ⟨k, g, q⟩ := g
  obtain ⟨h1, h2⟩ := wStep_I g q.sw r.n
  refine ⟨k + 1, ?_⟩
  cases hd : wDone (wStep r.h r.sw.now r.n).2 with
  | true =>
    rw [rSwMove_done hd, h1.cfg]
    have m := q.mono.modify r.sweep.toNat (fun x => { x with ended := r.n }) (fun x hx => ⟨hx.ul, hx.vl, hx.el⟩) (wStep r.h r.sw.now r.n).1
    refine ⟨h1, m.nc, m.cl, m.ca, m.cs, swNext_I ci q.st, swBegin_I (swNext_I ci q.st), ?_, m.sv, m.tk, by show (-1 : Int) < _; omega⟩
    show 0 ≤ swRound _ _ ∧ swRound _ _ ≤ _
    have r0 := q.rd
    unfold swRound
    split <;> constructor <;> omega
  | false =>
    rw [rSwMove_on hd]
    have m := q.mono.modify r.sweep.toNat (fun x => { x with placed := (wStep r.h r.sw.now r.n).2.placed }) (fun x hx => ⟨hx.ul, hx.vl, hx.el⟩) (wStep r.h r.sw.now r.n).1
    exact ⟨h1, m.nc, m.cl, m.ca, m.cs, m.st, h2, m.rd, m.sv, m.tk, m.sc⟩
theorem RnK.tick {r : RunS} (g : RnK c r) {b : Int} (hb : 0 ≤ b) : RnK c (rTick r b) := by
  obtain ⟨k, g, q⟩ := g
  have := rTick_I g q hb
  exact ⟨k + 1, this.1, this.2⟩
theorem callAt_ke (x : CallS) (n : Int) (p : ProcS) : (callAt x n p).who = x.who ∧ (callAt x n p).op = x.op ∧ (callAt x n p).began = x.began ∧ (callAt x n p).placed = pPlaced p ∧ (pDone p = false → (callAt x n p).ended = x.ended ∧ (callAt x n p).reply = x.reply) ∧ (pDone p = true → (callAt x n p).ended = n ∧ (callAt x n p).reply = pReply p) := by
  unfold callAt
  split
  · rename_i h
    exact ⟨rfl, rfl, rfl, rfl, fun h' => (by rw [h] at h'; cases h'), fun _ => ⟨rfl, rfl⟩⟩
  rename_i h
  exact ⟨rfl, rfl, rfl, rfl, fun _ => ⟨rfl, rfl⟩, fun h' => absurd h' h⟩
theorem bd_inc {x : CallS} {n : Int} (h : 0 ≤ x.who ∧ 0 ≤ x.began ∧ x.began ≤ n ∧ Pl x.began n x.placed ∧ -1 ≤ x.ended ∧ x.ended < n) : 0 ≤ x.who ∧ 0 ≤ x.began ∧ x.began ≤ n + 1 ∧ Pl x.began (n + 1) x.placed ∧ -1 ≤ x.ended ∧ x.ended < n + 1 :=
  ⟨h.1, h.2.1, by omega, h.2.2.2.1.mono (by omega), h.2.2.2.2.1, by omega⟩
theorem stI_inv (ci : CI c) : Inv (fun _ => True) (StI c) where
  idle r _ g := ⟨ci, g.k.inc, by have := g.n0; show 0 ≤ r.n + 1; omega, fun i d p h1 h2 => by
      obtain ⟨a, x, hx, b, e⟩ := g.cur i d p h1 h2
      exact ⟨a, x, hx, b.mono (by show r.n ≤ r.n + 1; omega), e⟩, g.open_, fun x hx => bd_inc (g.bd x hx), fun hs => by
      obtain ⟨x, hx, h1, h2, h3, h4⟩ := g.swc hs
      exact ⟨x, hx, h1, h2, h3.mono (by show r.n ≤ r.n + 1; omega), h4⟩, g.sww, g.swn⟩
  beg r i d _ g hd hn ho := by
    obtain ⟨e1, e2, e3, e4, e5, e6⟩ := rB_eq r i d
    obtain ⟨k, g1, q⟩ := g.k
    have n0 := g.n0
    refine ⟨ci, g.k.beg ci hd hn ho, g.n0, fun j d' p hj hp => ?_, fun j x hj hw he => ?_, fun x hx => ?_, fun hs => ?_, g.sww, g.swn⟩
    · rw [e1]
      rcases set_at hj with ⟨rfl, rfl⟩ | ⟨hne, hj⟩
      · obtain rfl : newP r.h j (d.ops.getD d.at_ zOpr) = p := Option.some.inj hp
        obtain ⟨b1, b2⟩ := pb_new r.h j (d.ops.getD d.at_ zOpr) r.n r.n
        exact ⟨Int.natCast_nonneg _, _, app_new _ _, b1, rfl, rfl, b2.symm, pm_new g1.cfg _ _⟩
      · obtain ⟨a, x, hx, hr⟩ := g.cur j d' p hj hp
        exact ⟨a, x, app_old hx, hr⟩
    · rw [e1] at hj
      rcases app_at hj with hj | ⟨rfl, rfl⟩
      · obtain ⟨i', d', a, b, b2, b3⟩ := g.open_ j x hj hw he
        refine ⟨i', d', a, ?_, b2, b3⟩
        rw [e6]
        refine set_at' b fun e => ?_
        subst e
        rw [hd] at b
        obtain rfl := Option.some.inj b
        exact b2 hn
      · exact ⟨i, _, rfl, rB_at hd, nofun, rfl⟩
    · rw [e1] at hx
      rcases List.mem_append.1 hx with hx | hx
      · exact g.bd x hx
      · rw [List.mem_singleton.1 hx]
        exact ⟨Int.natCast_nonneg _, n0, Int.le_refl _, .inl rfl, Int.le_refl _, by show (-1 : Int) < r.n; omega⟩
    · obtain ⟨x, hx, hr⟩ := g.swc hs
      rw [e1]
      exact ⟨x, app_old hx, hr⟩
  move r i d p _ g hd hn hen := by
    have n0 := g.n0
    obtain ⟨hc0, x, hx, hb, hw, hend, hpl, hm⟩ := g.cur i d p hd hn
    have hbd := g.bd x (List.mem_of_getElem? hx)
    obtain ⟨hm2, hb2⟩ := pm_step r.h d.mine (n := r.n + 1) hbd.2.2.1 (by omega) hm hb
    obtain ⟨k1, k2, k3, k4, k5, k6⟩ := callAt_ke x r.n (pStep r.h d.mine r.n p).2.2
    have hne : ∀ (j : Nat) (d' : ClientS) p', j ≠ i → r.clients[j]? = some d' → d'.now = some p' → d'.call.toNat ≠ d.call.toNat := fun j d' p' hji hj hp' e => by
      obtain ⟨_, x', hx', _, hw', _⟩ := g.cur j d' p' hj hp'
      rw [e, hx] at hx'
      obtain rfl := Option.some.inj hx'
      omega
    refine ⟨ci, (g.k.move ci hd hn).inc, by show 0 ≤ r.n + 1; omega, fun j d' p' hj hp' => ?_, fun j y hj hw' he => ?_, fun y hy => ?_, fun hs => ?_, g.sww, g.swn⟩
    · rcases set_at hj with ⟨rfl, rfl⟩ | ⟨hji, hj⟩
      · simp only at hp'
        cases hdn : pDone (pStep r.h d.mine r.n p).2.2 with
        | true =>
          rw [if_pos hdn] at hp'
          cases hp'
        | false =>
          rw [if_neg (by rw [hdn]; decide)] at hp'
          obtain rfl := Option.some.inj hp'
          exact ⟨hc0, _, modify_at' hx, by rw [if_pos rfl, k3]; exact hb2, by rw [if_pos rfl, k1]; exact hw, by rw [if_pos rfl, (k5 hdn).1]; exact hend, by rw [if_pos rfl, k4], by rw [if_pos rfl, k2]; exact hm2⟩
      · obtain ⟨a, y, hy, b, hr⟩ := g.cur j d' p' hj hp'
        refine ⟨a, y, ?_, b.mono (by show r.n ≤ r.n + 1; omega), hr⟩
        have := modify_at' (j := d.call.toNat) (f := fun x => callAt x r.n (pStep r.h d.mine r.n p).2.2) hy
        rwa [if_neg (fun e => hne j d' p' hji hj hp' e.symm)] at this
    · obtain ⟨z, hz, rfl⟩ := modify_at hj
      by_cases e : d.call.toNat = j
      · rw [if_pos e] at hw' he
        subst e
        rw [hx] at hz
        obtain rfl := Option.some.inj hz
        rw [if_pos rfl, k1]
        cases hdn : pDone (pStep r.h d.mine r.n p).2.2 with
        | true =>
          rw [(k6 hdn).1] at he
          omega
        | false =>
          refine ⟨i, _, hw.symm, List.getElem?_set_self (List.getElem?_eq_some_iff.1 hd).1, ?_, by show d.call = _; omega⟩
          simp only
          rw [if_neg (by rw [hdn]; decide)]
          exact nofun
      · rw [if_neg e] at hw' he ⊢
        obtain ⟨i', d', a, b, b2, b3⟩ := g.open_ j z hz hw' he
        refine ⟨i', d', a, set_at' b fun e' => ?_, b2, b3⟩
        subst e'
        rw [hd] at b
        obtain rfl := Option.some.inj b
        omega
    · obtain ⟨m, hm'⟩ := mem_at hy
      obtain ⟨z, hz, rfl⟩ := modify_at hm'
      have hz' := bd_inc (g.bd z (List.mem_of_getElem? hz))
      show _ ∧ _ ∧ _ ≤ r.n + 1 ∧ Pl _ (r.n + 1) _ ∧ _ ∧ _ < r.n + 1
      split
      · rename_i e
        subst e
        rw [hx] at hz
        obtain rfl := Option.some.inj hz
        rw [k1, k3, k4]
        refine ⟨hz'.1, hz'.2.1, hz'.2.2.1, hb2.pl, ?_⟩
        cases hdn : pDone (pStep r.h d.mine r.n p).2.2 with
        | true =>
          rw [(k6 hdn).1]
          omega
        | false =>
          rw [(k5 hdn).1]
          exact hz'.2.2.2.2
      · exact hz'
    · obtain ⟨y, hy, hy8, h2, h3, hr⟩ := g.swc hs
      refine ⟨y, ?_, hy8, h2, h3.mono (by show r.n ≤ r.n + 1; omega), hr⟩
      have hmm := modify_at' (j := d.call.toNat) (f := fun x => callAt x r.n (pStep r.h d.mine r.n p).2.2) hy
      rwa [if_neg (fun e => ?_)] at hmm
      have hr8 : r.sweep.toNat = d.call.toNat := e.symm
      rw [hr8, hx] at hy
      obtain rfl := Option.some.inj hy
      have := g.who8 hd
      omega
  swb r _ g hs _ _ := by
    have n0 := g.n0
    have e : rSwBeg r = { rBegan r ⟨8, r.sweeps, zOpr, r.sw.stripe, 0, 0, 0, 0, zReply⟩ with sweep := r.calls.length, sweeps := r.sweeps + 1 } := by
      unfold rSwBeg
      rw [if_pos hs]
    have hsn := g.swn hs
    refine ⟨ci, g.k.swb hs, by rw [e]; exact n0, ?_, ?_, ?_, ?_, by rw [e]; exact g.sww, ?_⟩
    · rw [e]
      intro j d' p hj hp
      obtain ⟨a, x, hx, hr⟩ := g.cur j d' p hj hp
      exact ⟨a, x, app_old hx, hr⟩
    · rw [e]
      intro j x hj hw he
      rcases app_at hj with hj | ⟨rfl, rfl⟩
      · exact g.open_ j x hj hw he
      · exact absurd hw (by show ¬ (8 : Int) < 8; decide)
    · rw [e]
      intro x hx
      rcases List.mem_append.1 hx with hx | hx
      · exact g.bd x hx
      · rw [List.mem_singleton.1 hx]
        exact ⟨by show (0 : Int) ≤ 8; decide, n0, Int.le_refl _, .inl rfl, Int.le_refl _, by show (-1 : Int) < r.n; omega⟩
    · rw [e]
      intro _
      refine ⟨cBeg r ⟨8, r.sweeps, zOpr, r.sw.stripe, 0, 0, 0, 0, zReply⟩, ?_, rfl, rfl, ?_, ?_, rfl⟩
      · show (r.calls ++ [_])[((r.calls.length : Nat) : Int).toNat]? = _
        rw [Int.toNat_natCast]
        exact app_new _ _
      · show Pl _ r.n r.sw.now.placed
        rw [hsn]
        exact .inl rfl
      · show (-1 : Int) = r.sw.now.placed
        rw [hsn]
        rfl
    · rw [e]
      intro h
      have h : ((r.calls.length : Nat) : Int) < 0 := h
      omega
  swm r _ g hs _ := by
    have n0 := g.n0
    obtain ⟨x, hx, hw, hend, hpw, hpl, hst⟩ := g.swc hs
    have hbx := g.bd x (List.mem_of_getElem? hx)
    have hne : ∀ (j : Nat) (d' : ClientS) p', r.clients[j]? = some d' → d'.now = some p' → d'.call.toNat ≠ r.sweep.toNat := fun j d' p' hj hp' e => by
      obtain ⟨_, x', hx', _, hw', _⟩ := g.cur j d' p' hj hp'
      rw [e, hx] at hx'
      obtain rfl := Option.some.inj hx'
      have := g.who8 hj
      omega
    obtain ⟨s1, s2, s3, s4⟩ := wStep_keep r.h r.sw.now r.n
    have gw := g.sww
    have hk := (g.k.swm ci).inc
    have hpn : Pl x.began (r.n + 1) (wStep r.h r.sw.now r.n).2.placed := by
      rcases s4 with e | e <;> rw [e]
      · exact hpw.mono (by omega)
      · exact .inr ⟨hbx.2.2.1, by omega⟩
    cases hd : wDone (wStep r.h r.sw.now r.n).2 with
    | true =>
      rw [rSwMove_done hd] at hk ⊢
      refine ⟨ci, hk, by show 0 ≤ r.n + 1; omega, fun j d' p' hj hp' => ?_, fun j y hj hw' he => ?_, fun y hy => ?_, fun h => absurd h (by show ¬ (0 : Int) ≤ -1; decide), ⟨rfl, rfl, rfl⟩, fun _ => rfl⟩
      · obtain ⟨a, y, hy, b, hr⟩ := g.cur j d' p' hj hp'
        refine ⟨a, y, ?_, b.mono (by show r.n ≤ r.n + 1; omega), hr⟩
        have := modify_at' (j := r.sweep.toNat) (f := fun x => { x with ended := r.n }) hy
        rwa [if_neg (fun e => hne j d' p' hj hp' e.symm)] at this
      · obtain ⟨z, hz, rfl⟩ := modify_at hj
        by_cases e : r.sweep.toNat = j
        · subst e
          rw [hx] at hz
          obtain rfl := Option.some.inj hz
          rw [if_pos rfl] at hw'
          exact absurd hw' (by show ¬ x.who < 8; omega)
        · rw [if_neg e] at hw' he ⊢
          exact g.open_ j z hz hw' he
      · obtain ⟨m, hm'⟩ := mem_at hy
        obtain ⟨z, hz, rfl⟩ := modify_at hm'
        have hz' := bd_inc (g.bd z (List.mem_of_getElem? hz))
        show _ ∧ _ ∧ _ ≤ r.n + 1 ∧ Pl _ (r.n + 1) _ ∧ _ ∧ _ < r.n + 1
        split
        · exact ⟨hz'.1, hz'.2.1, hz'.2.2.1, hz'.2.2.2.1, by show -1 ≤ r.n; omega, by show r.n < r.n + 1; omega⟩
        · exact hz'
    | false =>
      rw [rSwMove_on hd] at hk ⊢
      refine ⟨ci, hk, by show 0 ≤ r.n + 1; omega, fun j d' p' hj hp' => ?_, fun j y hj hw' he => ?_, fun y hy => ?_, fun _ => ?_, ⟨s1.trans gw.1, s2.trans gw.2.1, s3.trans gw.2.2⟩, fun h => ?_⟩
      · obtain ⟨a, y, hy, b, hr⟩ := g.cur j d' p' hj hp'
        refine ⟨a, y, ?_, b.mono (by show r.n ≤ r.n + 1; omega), hr⟩
        have := modify_at' (j := r.sweep.toNat) (f := fun x => { x with placed := (wStep r.h r.sw.now r.n).2.placed }) hy
        rwa [if_neg (fun e => hne j d' p' hj hp' e.symm)] at this
      · obtain ⟨z, hz, rfl⟩ := modify_at hj
        by_cases e : r.sweep.toNat = j
        · subst e
          rw [hx] at hz
          obtain rfl := Option.some.inj hz
          rw [if_pos rfl] at hw'
          exact absurd hw' (by show ¬ x.who < 8; omega)
        · rw [if_neg e] at hw' he ⊢
          exact g.open_ j z hz hw' he
      · obtain ⟨m, hm'⟩ := mem_at hy
        obtain ⟨z, hz, rfl⟩ := modify_at hm'
        have hz' := bd_inc (g.bd z (List.mem_of_getElem? hz))
        show _ ∧ _ ∧ _ ≤ r.n + 1 ∧ Pl _ (r.n + 1) _ ∧ _ ∧ _ < r.n + 1
        split
        · rename_i e
          subst e
          rw [hx] at hz
          obtain rfl := Option.some.inj hz
          exact ⟨hz'.1, hz'.2.1, hz'.2.2.1, hpn, hz'.2.2.2.2⟩
        · exact hz'
      · have hmm := modify_at' (j := r.sweep.toNat) (f := fun x => { x with placed := (wStep r.h r.sw.now r.n).2.placed }) hx
        rw [if_pos rfl] at hmm
        exact ⟨_, hmm, hw, hend, hpn, rfl, hst⟩
      · have h : r.sweep < 0 := h
        omega
  tick r b _ g hb _ := by
    have n0 := g.n0
    refine ⟨ci, (g.k.tick hb).inc, by show 0 ≤ r.n + 1; omega, fun j d' p hj hp => ?_, fun j x hj hw he => ?_, fun x hx => ?_, fun hs => ?_, g.sww, g.swn⟩
    · obtain ⟨a, x, hx, b, hr⟩ := g.cur j d' p hj hp
      exact ⟨a, x, app_old hx, b.mono (by show r.n ≤ r.n + 1; omega), hr⟩
    · rcases app_at hj with hj | ⟨rfl, rfl⟩
      · exact g.open_ j x hj hw he
      · exact absurd hw (by show ¬ (9 : Int) < 8; decide)
    · show _ ∧ _ ∧ _ ≤ r.n + 1 ∧ Pl _ (r.n + 1) _ ∧ _ ∧ _ < r.n + 1
      rcases List.mem_append.1 hx with hx | hx
      · exact bd_inc (g.bd x hx)
      · rw [List.mem_singleton.1 hx]
        exact ⟨by show (0 : Int) ≤ 9; decide, n0, by show r.n ≤ r.n + 1; omega, .inr ⟨Int.le_refl _, by show r.n < r.n + 1; omega⟩, by show -1 ≤ r.n; omega, by show r.n < r.n + 1; omega⟩
    · obtain ⟨x, hx, h1, h2, h3, hr⟩ := g.swc hs
      exact ⟨x, app_old hx, h1, h2, h3.mono (by show r.n ≤ r.n + 1; omega), hr⟩
theorem stI_new {s : Script} (hw : WordsS s) (ci : CI s.cfg) (hcl : s.clients.length ≤ 8) (ho : ∀ l ∈ s.clients, l.length ≤ 50 ∧ ∀ x ∈ l, OpI x) (fp : Nat → Nat) : StI s.cfg (runNew s fp) := by
  have i := runNew_I hw ci hcl ho fp
  refine ⟨ci, ⟨0, i.hh, i.rr⟩, Int.le_refl _, fun j d p hj hp => ?_, fun j x hj => (by cases hj), fun x hx => (by cases hx), fun h => absurd h (by show ¬ (0 : Int) ≤ -1; decide), ⟨rfl, rfl, rfl⟩, fun _ => rfl⟩
  obtain ⟨l, _, rfl⟩ := List.mem_map.1 (List.mem_of_getElem? hj)
  cases hp
variable {c : Cfg} {h : HallS} {k : Nat}
/-! ### The time -/
theorem hLock_time (h : HallS) (w : Int) (s : Nat) : (hLock h w s).1.time = h.time := by
  unfold hLock
  split <;> rfl
theorem hUnlock_time (h : HallS) (w : Int) (s : Nat) : (hUnlock h w s).1.time = h.time := by
  unfold hUnlock
  split <;> rfl
theorem rDo_time (h : HallS) (p : RProc) (pos : Int) : (rDo h p pos).1.time = h.time := by
  unfold rDo
  split <;> first | rfl | exact hLock_time _ _ _ | exact hUnlock_time _ _ _
theorem rStep_time (h : HallS) (p : RProc) (pos : Int) : (rStep h p pos).1.time = h.time := by
  unfold rStep
  split
  · rfl
  split
  · rfl
  exact rDo_time _ _ _
/-! ### Errors of a process -/
theorem hActs_at {x : Opr} {s n j : Nat} {a : HAct} (hb : badOp x = false) (h : (hActs x s n)[j]? = some a) : a ≠ .bad ∧ (x.kind = 9 → j = 0 ∧ a = .shut) ∧ (x.kind ≠ 8 → x.kind ≠ 9 → (j = 0 ∧ a = .lock s) ∨ (j = 1 ∧ a = .look) ∨ (j = 2 ∧ a = .watch) ∨ (j = 3 ∧ a = .unlock s)) := by
  unfold hActs at h
  rw [if_neg (by rw [hb]; decide)] at h
  split at h
  · rename_i h8
    refine ⟨fun e => ?_, fun h9 => by omega, fun h1 => absurd h8 h1⟩
    subst e
    have := List.mem_of_getElem? h
    simp at this
  split at h
  · rename_i h9
    rcases j with _ | j
    · obtain rfl := Option.some.inj h
      exact ⟨nofun, fun _ => ⟨rfl, rfl⟩, fun _ h => absurd h9 h⟩
    cases h
  rename_i h9
  rcases j with _ | _ | _ | _ | j
  · obtain rfl := Option.some.inj h
    exact ⟨nofun, fun h => absurd h h9, fun _ _ => .inl ⟨rfl, rfl⟩⟩
  · obtain rfl := Option.some.inj h
    exact ⟨nofun, fun h => absurd h h9, fun _ _ => .inr (.inl ⟨rfl, rfl⟩)⟩
  · obtain rfl := Option.some.inj h
    exact ⟨nofun, fun h => absurd h h9, fun _ _ => .inr (.inr (.inl ⟨rfl, rfl⟩))⟩
  · obtain rfl := Option.some.inj h
    exact ⟨nofun, fun h => absurd h h9, fun _ _ => .inr (.inr (.inr ⟨rfl, rfl⟩))⟩
  cases h
theorem hActs_bad {x : Opr} {s n j : Nat} {a : HAct} (hb : badOp x = true) (h : (hActs x s n)[j]? = some a) : j = 0 ∧ a = .bad := by
  unfold hActs at h
  rw [if_pos hb] at h
  rcases j with _ | j
  · exact ⟨rfl, (Option.some.inj h).symm⟩
  cases h
variable {c : Cfg} {h : HallS} {k : Nat}
structure SeqI (r : RunS) : Prop where
  mx : ∀ (i : Nat) (d : ClientS), r.clients[i]? = some d → d.now ≠ none → ∀ (a : Nat) (y : CallS), r.calls[a]? = some y → y.who = (i : Int) → (a : Int) ≤ d.call
  sq : ∀ (a b : Nat) (x y : CallS), r.calls[a]? = some x → r.calls[b]? = some y → a < b → x.who = y.who → x.who < 8 → x.placed < y.began ∧ 0 ≤ x.ended ∧ x.ended < y.began
  zr : ∀ x ∈ r.calls, x.ended < 0 → x.reply = zReply
theorem seq_mod {r r' : RunS} (g : SeqI r) {j : Nat} {f : CallS → CallS} {x : CallS} (hx : r.calls[j]? = some x) (h8 : 8 ≤ x.who) (hf : ∀ y, (f y).who = y.who ∧ (f y).reply = y.reply) (he : (f x).ended < 0 → x.ended < 0) (e1 : r'.calls = r.calls.modify j f) (e2 : r'.clients = r.clients) : SeqI r' := by
  have old : ∀ (m : Nat) y, r'.calls[m]? = some y → y.who < 8 → r.calls[m]? = some y := fun m y hy hw => by
    rw [e1] at hy
    obtain ⟨z, hz, rfl⟩ := modify_at hy
    by_cases e : j = m
    · subst e
      rw [hx] at hz
      obtain rfl := Option.some.inj hz
      rw [if_pos rfl, (hf x).1] at hw
      omega
    rw [if_neg e]
    exact hz
  refine ⟨fun i d hd hn a y hy hw => ?_, fun a b x' y h1 h2 hab hw h8' => ?_, fun y hy he' => ?_⟩
  · rw [e2] at hd
    rw [e1] at hy
    obtain ⟨z, hz, rfl⟩ := modify_at hy
    refine g.mx i d hd hn a z hz ?_
    split at hw
    · rw [(hf z).1] at hw
      exact hw
    exact hw
  · exact g.sq a b x' y (old a x' h1 h8') (old b y h2 (by omega)) hab hw h8'
  rw [e1] at hy
  obtain ⟨m, hm⟩ := mem_at hy
  obtain ⟨z, hz, rfl⟩ := modify_at hm
  by_cases e : j = m
  · subst e
    rw [hx] at hz
    obtain rfl := Option.some.inj hz
    rw [if_pos rfl] at he' ⊢
    rw [(hf x).2]
    exact g.zr x (List.mem_of_getElem? hx) (he he')
  rw [if_neg e] at he' ⊢
  exact g.zr z (List.mem_of_getElem? hz) he'
theorem seq_app {r r' : RunS} (g : SeqI r) {x : CallS} (h8 : 8 ≤ x.who) (hz : x.reply = zReply) (e1 : r'.calls = r.calls ++ [x]) (e2 : r'.clients = r.clients) (hc : ∀ (i : Nat) (d : ClientS), r.clients[i]? = some d → i < 8) : SeqI r' := by
  refine ⟨fun i d hd hn a y hy hw => ?_, fun a b x' y h1 h2 hab hw h8' => ?_, fun y hy he' => ?_⟩
  · rw [e2] at hd
    rw [e1] at hy
    rcases app_at hy with hy | ⟨_, rfl⟩
    · exact g.mx i d hd hn a y hy hw
    have := hc i d hd
    omega
  · rw [e1] at h1 h2
    rcases app_at h1 with h1 | ⟨_, rfl⟩
    · rcases app_at h2 with h2 | ⟨_, rfl⟩
      · exact g.sq a b x' y h1 h2 hab hw h8'
      omega
    omega
  rw [e1] at hy
  rcases List.mem_append.1 hy with hy | hy
  · exact g.zr y hy he'
  rw [List.mem_singleton.1 hy]
  exact hz
theorem seqI_inv : Inv (StI c) SeqI where
  idle r _ g := ⟨g.mx, g.sq, g.zr⟩
  beg r i d K g hd hn ho := by
    obtain ⟨e1, e2, e3, e4, e5, e6⟩ := rB_eq r i d
    have n0 := K.n0
    have hlen : ∀ (a : Nat) y, r.calls[a]? = some y → a < r.calls.length := fun a y h => (List.getElem?_eq_some_iff.1 h).1
    refine ⟨fun j d' hj hn' a y hy hw => ?_, fun a b x y h1 h2 hab hw h8 => ?_, fun y hy he => ?_⟩
    · rw [e1] at hy
      rcases set_at hj with ⟨rfl, rfl⟩ | ⟨hne, hj⟩
      · show (a : Int) ≤ (r.calls.length : Int)
        rcases app_at hy with hy | ⟨rfl, _⟩
        · have := hlen a y hy
          omega
        · exact Int.le_refl _
      · rcases app_at hy with hy | ⟨_, rfl⟩
        · exact g.mx j d' hj hn' a y hy hw
        · have hw : (i : Int) = (j : Int) := hw
          omega
    · rw [e1] at h1 h2
      rcases app_at h1 with h1 | ⟨rfl, rfl⟩
      · rcases app_at h2 with h2 | ⟨rfl, rfl⟩
        · exact g.sq a b x y h1 h2 hab hw h8
        · have hb := K.bd x (List.mem_of_getElem? h1)
          have he : 0 ≤ x.ended := by
            rcases Int.lt_or_le x.ended 0 with he | he
            · obtain ⟨i', d', a1, a2, a3, _⟩ := K.open_ a x h1 h8 he
              have hw : x.who = (i : Int) := hw
              obtain rfl : i' = i := by omega
              rw [hd] at a2
              obtain rfl := Option.some.inj a2
              exact absurd hn a3
            · exact he
          refine ⟨?_, he, hb.2.2.2.2.2⟩
          show x.placed < r.n
          rcases hb.2.2.2.1 with e | e <;> omega
      · have : b < (r.calls ++ [_]).length := (List.getElem?_eq_some_iff.1 h2).1
        simp at this
        omega
    · rw [e1] at hy
      rcases List.mem_append.1 hy with hy | hy
      · exact g.zr y hy he
      · rw [List.mem_singleton.1 hy]
        rfl
  move r i d p K g hd hn hen := by
    have n0 := K.n0
    obtain ⟨hc0, x, hx, hb, hw, hend, hpl, hm⟩ := K.cur i d p hd hn
    obtain ⟨k1, k2, k3, k4, k5, k6⟩ := callAt_ke x r.n (pStep r.h d.mine r.n p).2.2
    have key : ∀ (m : Nat) y, (rMove r i d p).calls[m]? = some y → ∃ z, r.calls[m]? = some z ∧ y.who = z.who ∧ y.began = z.began ∧ (m ≠ d.call.toNat → y = z) := fun m y hy => by
      obtain ⟨z, hz, rfl⟩ := modify_at hy
      refine ⟨z, hz, ?_⟩
      split
      · rename_i e
        subst e
        rw [hx] at hz
        obtain rfl := Option.some.inj hz
        exact ⟨k1, k3, fun h => absurd rfl h⟩
      · exact ⟨rfl, rfl, fun _ => rfl⟩
    refine ⟨fun j d' hj hn' a y hy hw' => ?_, fun a b x' y h1 h2 hab hw' h8 => ?_, fun y hy he => ?_⟩
    · obtain ⟨z, hz, e1, _⟩ := key a y hy
      rcases set_at hj with ⟨rfl, rfl⟩ | ⟨hne, hj⟩
      · exact g.mx j d hd (by rw [hn]; exact nofun) a z hz (by omega)
      · exact g.mx j d' hj hn' a z hz (by omega)
    · obtain ⟨z1, hz1, e1, e2, e3⟩ := key a x' h1
      obtain ⟨z2, hz2, f1, f2, f3⟩ := key b y h2
      have hs := g.sq a b z1 z2 hz1 hz2 hab (by omega) (by omega)
      rw [f2, e3 (fun e => ?_)]
      · exact hs
      · subst e
        rw [hx] at hz1
        obtain rfl := Option.some.inj hz1
        have := g.mx i d hd (by rw [hn]; exact nofun) b z2 hz2 (by omega)
        omega
    · obtain ⟨m, hm'⟩ := mem_at hy
      obtain ⟨z, hz, rfl⟩ := modify_at hm'
      split at he
      · rename_i e
        rw [if_pos e]
        subst e
        rw [hx] at hz
        obtain rfl := Option.some.inj hz
        cases hdn : pDone (pStep r.h d.mine r.n p).2.2 with
        | true =>
          rw [(k6 hdn).1] at he
          omega
        | false =>
          rw [(k5 hdn).2]
          exact g.zr x (List.mem_of_getElem? hx) (by omega)
      · rename_i e
        rw [if_neg e]
        exact g.zr z (List.mem_of_getElem? hz) he
  swb r K g hs _ _ := by
    have e : rSwBeg r = { rBegan r ⟨8, r.sweeps, zOpr, r.sw.stripe, 0, 0, 0, 0, zReply⟩ with sweep := r.calls.length, sweeps := r.sweeps + 1 } := by
      unfold rSwBeg
      rw [if_pos hs]
    rw [e]
    exact seq_app g (x := cBeg r ⟨8, r.sweeps, zOpr, r.sw.stripe, 0, 0, 0, 0, zReply⟩) (by show (8 : Int) ≤ 8; decide) rfl rfl rfl (fun i d hd => K.who8 hd)
  swm r K g hs hen := by
    have n0 := K.n0
    obtain ⟨x, hx, hw, hend, _, hpl, hst⟩ := K.swc hs
    cases hd : wDone (wStep r.h r.sw.now r.n).2 with
    | true =>
      rw [rSwMove_done hd]
      exact seq_mod g (f := fun x => { x with ended := r.n }) hx (by omega) (fun _ => ⟨rfl, rfl⟩) (fun h => by have h : r.n < 0 := h; omega) rfl rfl
    | false =>
      rw [rSwMove_on hd]
      exact seq_mod g (f := fun x => { x with placed := (wStep r.h r.sw.now r.n).2.placed }) hx (by omega) (fun _ => ⟨rfl, rfl⟩) (fun h => h) rfl rfl
  tick r b K g _ _ := seq_app g (x := ⟨9, r.ticks, zOpr, 0, b, r.n, r.n, r.n, zReply⟩) (by show (8 : Int) ≤ 9; decide) rfl rfl rfl (fun i d hd => K.who8 hd)
theorem seqI_new (s : Script) (fp : Nat → Nat) : SeqI (runNew s fp) := by
  refine ⟨fun j d hj hn => ?_, fun a b x y hx => (by cases hx), fun y hy => (by cases hy)⟩
  obtain ⟨l, _, rfl⟩ := List.mem_map.1 (List.mem_of_getElem? hj)
  exact absurd rfl hn
variable {c : Cfg} {h h' : HallS} {k : Nat} {l : List CallS}
def Wd (l : List CallS) (w : Nat) (u : ByteArray) : Prop := ∃ y ∈ l, y.who = (w : Int) ∧ y.op.kind = 6 ∧ y.op.user = u ∧ 0 ≤ y.placed
structure EOk (c : Cfg) (N : Int) (s : Nat) (e : Event) : Prop where
  ne : e.old ≠ e.new
  lo : 1 ≤ e.seq
  hi : e.seq ≤ N
  st : stripeOf e.user c.stripes = (s : Int)
theorem EOk.mono {N N' : Int} {s : Nat} {e : Event} (g : EOk c N s e) (h : N ≤ N') : EOk c N' s e := ⟨g.ne, g.lo, Int.le_trans g.hi h, g.st⟩
structure HE (c : Cfg) (h : HallS) (l : List CallS) : Prop where
  fd : ∀ s, FdI (h.feed s)
  bk : ∀ s, ∀ u ∈ (hStr h s).book.keys, stripeOf u c.stripes = (s : Int)
  wt : ∀ (s w : Nat) u, w < 8 → fWatching (h.feed s) (w : Int) u = true → Wd l w u
  ev : ∀ s w, w < 8 → ∀ e ∈ ((h.feed s).q w).l, EOk c h.time.seq s e ∧ Wd l w e.user
  pw : ∀ s w, w < 8 → ((h.feed s).q w).l.Pairwise EPair
theorem HE.calls {l' : List CallS} (g : HE c h l) (hm : ∀ w u, Wd l w u → Wd l' w u) : HE c h l' := ⟨g.fd, g.bk, fun s w u hw hf => hm _ _ (g.wt s w u hw hf), fun s w hw e he => ⟨(g.ev s w hw e he).1, hm _ _ (g.ev s w hw e he).2⟩, g.pw⟩
theorem HE.same (g : HE c h l) (e1 : h'.feed = h.feed) (e2 : ∀ s, (hStr h' s).book = (hStr h s).book) (e3 : h.time.seq ≤ h'.time.seq) : HE c h' l :=
  ⟨fun s => by rw [e1]; exact g.fd s, fun s u hu => by rw [e2] at hu; exact g.bk s u hu, fun s w u hw hf => by rw [e1] at hf; exact g.wt s w u hw hf, fun s w hw e he => by rw [e1] at he; exact ⟨(g.ev s w hw e he).1.mono e3, (g.ev s w hw e he).2⟩, fun s w hw => by rw [e1]; exact g.pw s w hw⟩
theorem hStr_sets (h : HallS) (s : Nat) (x : Str) (i : Nat) : hStr (hSet h s x) i = hStr h i ∨ i = s ∧ hStr (hSet h s x) i = x := by
  by_cases e : i = s
  · rcases hStr_setI h s x i with h1 | h1
    · exact .inr ⟨e, h1⟩
    exact .inl h1
  left
  unfold hStr hSet
  simp only
  rw [List.getD_eq_getElem?_getD, List.getElem?_set_ne (fun h => e h.symm), ← List.getD_eq_getElem?_getD]
theorem hStr_sets_at {h : HallS} {s : Nat} (hs : s < h.strs.length) (x : Str) : hStr (hSet h s x) s = x := by
  unfold hStr hSet
  simp only
  rw [List.getD_eq_getElem?_getD, List.getElem?_set_self hs]
  rfl
theorem book_set (h : HallS) (s : Nat) {x : Str} (hx : x.book = (hStr h s).book) (i : Nat) : (hStr (hSet h s x) i).book = (hStr h i).book := by
  rcases hStr_sets h s x i with e | ⟨rfl, e⟩ <;> rw [e]
  exact hx
theorem latch_set (h : HallS) (s : Nat) {x : Str} (hx : x.latch = (hStr h s).latch) (i : Nat) : (hStr (hSet h s x) i).latch = (hStr h i).latch := by
  rcases hStr_sets h s x i with e | ⟨rfl, e⟩ <;> rw [e]
  exact hx
structure HRel (w : Int) (h h' : HallS) : Prop where
  la : ∀ s z, 0 ≤ z → z ≠ w → (hStr h s).latch = z + 1 → (hStr h' s).latch = z + 1
  sq : h.time.seq ≤ h'.time.seq
  qe : ∀ s v e, v < 8 → e ∈ ((h'.feed s).q v).l → e ∈ ((h.feed s).q v).l ∨ (hStr h s).latch = w + 1
theorem HRel.refl (w : Int) (h : HallS) : HRel w h h := ⟨fun _ _ _ _ e => e, Int.le_refl _, fun _ _ _ _ he => .inl he⟩
theorem HRel.same {w : Int} (e1 : h'.feed = h.feed) (e2 : ∀ s, (hStr h' s).latch = (hStr h s).latch) (e3 : h.time.seq ≤ h'.time.seq) : HRel w h h' :=
  ⟨fun s z _ _ e => by rw [e2]; exact e, e3, fun s v e _ he => .inl (by rw [e1] at he; exact he)⟩
theorem hLock_rel (h : HallS) (w : Int) (s : Nat) : HRel w h (hLock h w s).1 ∧ (∀ l, HE c h l → HE c (hLock h w s).1 l) := by
  unfold hLock
  split
  · rename_i ht
    refine ⟨⟨fun i z hz hne e => ?_, Int.le_refl _, fun i v e _ he => .inl he⟩, fun l g => HE.same g rfl (fun i => by refine book_set (hDid h w 5 (plc s 1)) s ?_ i; rfl) (Int.le_refl _)⟩
    rcases hStr_sets (hDid h w 5 (plc s 1)) s { hStr h s with latch := (latchTake (hStr h s).latch w).1 } i with e' | ⟨rfl, e'⟩
    · rw [e']
      exact e
    unfold latchTake at ht
    split at ht
    · cases ht
    rename_i hn
    omega
  exact ⟨HRel.refl _ _, fun l g => g⟩
theorem hUnlock_rel (h : HallS) (w : Int) (s : Nat) : HRel w h (hUnlock h w s).1 ∧ (∀ l, HE c h l → HE c (hUnlock h w s).1 l) := by
  unfold hUnlock
  split
  · rename_i ht
    refine ⟨⟨fun i z hz hne e => ?_, Int.le_refl _, fun i v e _ he => .inl he⟩, fun l g => HE.same g rfl (fun i => by refine book_set (hDid h w 6 (plc s 1)) s ?_ i; rfl) (Int.le_refl _)⟩
    rcases hStr_sets (hDid h w 6 (plc s 1)) s { hStr h s with latch := (latchGive (hStr h s).latch w).1 } i with e' | ⟨rfl, e'⟩
    · rw [e']
      exact e
    unfold latchGive at ht
    split at ht
    · cases ht
    rename_i hn
    omega
  exact ⟨HRel.refl _ _, fun l g => g⟩
theorem setF_at (q : Nat → FeedS) (s : Nat) (f : FeedS) (i : Nat) : setF q s f i = if i = s then f else q i := rfl
theorem HE.tell {s : Nat} {chs : List Change} {N : Int} {b : Book} (g : HE c h l) (hN0 : 1 ≤ N) (hN1 : N ≤ h.time.seq) (hlt : ∀ w, w < 8 → ∀ e ∈ ((h.feed s).q w).l, e.seq < N) (hp : chs.Pairwise fun a b => a.user ≠ b.user) (hc : ∀ x ∈ chs, ChOk x ∧ stripeOf x.user c.stripes = (s : Int)) (hb : ∀ u ∈ b.keys, stripeOf u c.stripes = (s : Int)) (who : Int) :
    HE c { hSet (hWr h who s) s { hStr h s with book := b } with feed := setF h.feed s (fTell (h.feed s) chs N) } l := by
  have t := tell_all hlt (fun w hw => g.pw s w hw) hp
  refine ⟨fun i => ?_, fun i u hu => ?_, fun i w u hw hf => ?_, fun i w hw e he => ?_, fun i w hw => ?_⟩
  · show FdI (setF h.feed s _ i)
    rw [setF_at]
    split
    · exact (g.fd s).tell _ _
    exact g.fd i
  · have hu : u ∈ (hStr (hSet (hWr h who s) s { hStr h s with book := b }) i).book.keys := hu
    rcases hStr_sets (hWr h who s) s { hStr h s with book := b } i with e | ⟨rfl, e⟩
    · rw [e] at hu
      exact g.bk i u hu
    rw [e] at hu
    exact hb u hu
  · have hf : fWatching (setF h.feed s (fTell (h.feed s) chs N) i) (w : Int) u = true := hf
    rw [setF_at] at hf
    split at hf
    · exact g.wt s w u hw hf
    exact g.wt i w u hw hf
  · have he : e ∈ ((setF h.feed s (fTell (h.feed s) chs N) i).q w).l := he
    show EOk c h.time.seq i e ∧ _
    rw [setF_at] at he
    split at he
    · rename_i ei
      subst ei
      rcases t.mem w hw e he with he | ⟨x, hx, rfl, hf⟩
      · exact g.ev i w hw e he
      obtain ⟨c1, c2⟩ := hc x hx
      exact ⟨⟨c1, hN0, hN1, c2⟩, g.wt i w _ hw hf⟩
    exact g.ev i w hw e he
  show ((setF h.feed s (fTell (h.feed s) chs N) i).q w).l.Pairwise EPair
  rw [setF_at]
  split
  · exact t.pw w hw
  exact g.pw i w hw
theorem tell_rel {s : Nat} {chs : List Change} {N : Int} {b : Book} (who : Int) (hl : (hStr h s).latch = who + 1) : HRel who h { hSet (hWr h who s) s { hStr h s with book := b } with feed := setF h.feed s (fTell (h.feed s) chs N) } := by
  refine ⟨fun i z _ _ e => ?_, Int.le_refl _, fun i v e _ he => ?_⟩
  · show (hStr (hSet (hWr h who s) s _) i).latch = _
    refine (latch_set (hWr h who s) s ?_ _).trans ?_
    · rfl
    exact e
  have he : e ∈ ((setF h.feed s (fTell (h.feed s) chs N) i).q v).l := he
  rw [setF_at] at he
  split at he
  · rename_i ei
    subst ei
    exact .inr hl
  exact .inl he
/-! ### Processes that write -/
structure PW (c : Cfg) (h : HallS) (p : WProc) : Prop where
  w0 : 0 ≤ p.who
  st : ∀ x, p.act = .wr x → stripeOf x.user c.stripes = (p.s : Int)
  la : p.act ≠ .bad → 1 ≤ p.at_ → p.at_ ≤ 6 → (hStr h p.s).latch = p.who + 1
  tk : p.act ≠ .bad → p.at_ = 3 → 1 ≤ p.time.seq ∧ p.time.seq ≤ h.time.seq ∧ ∀ v, v < 8 → ∀ e ∈ ((h.feed p.s).q v).l, e.seq < p.time.seq
theorem PW.other {p : WProc} (g : PW c h p) {w : Int} (r : HRel w h h') (hne : p.who ≠ w) : PW c h' p := by
  refine ⟨g.w0, g.st, fun hb h1 h6 => r.la _ _ g.w0 hne (g.la hb h1 h6), fun hb h3 => ?_⟩
  obtain ⟨t1, t2, t3⟩ := g.tk hb h3
  refine ⟨t1, Int.le_trans t2 r.sq, fun v hv e he => ?_⟩
  rcases r.qe _ _ _ hv he with he | hl
  · exact t3 v hv e he
  have := g.la hb (by omega) (by omega)
  omega
theorem w_wat (gi : HI c h k) {p : WProc} (wi : WI1 c p) (g : HE c h l) (gp : PW c h p) (hs0 : 0 ≤ h.time.seq) (hsq : h.time.seq < 18446744073709551615) (pos : Int) : HE c (wStep h p pos).1 l ∧ PW c (wStep h p pos).1 (wStep h p pos).2 ∧ HRel p.who h (wStep h p pos).1 ∧ (wStep h p pos).1.time.seq ≤ h.time.seq + 1 := by
  unfold wStep
  split
  · exact ⟨g, gp, HRel.refl _ _, by show h.time.seq ≤ _; omega⟩
  rename_i hen
  have hen : wEnabled h p = true := by simpa using hen
  split
  · rename_i hbad
    have hb : p.act = .bad := by
      cases e : p.act with
      | bad => rfl
      | _ => rw [e] at hbad; cases hbad
    exact ⟨g, ⟨gp.w0, fun x hx => (by rw [hb] at hx; cases hx), fun h => absurd hb h, fun h => absurd hb h⟩, HRel.refl _ _, by show h.time.seq ≤ _; omega⟩
  rename_i hbad
  have hb : p.act ≠ .bad := fun e => hbad (by rw [e]; rfl)
  have hlt := gi.lt wi.s
  dsimp only
  generalize hp1 : (if p.at_ = 2 then { p with placed := pos } else p) = p1
  have q1 : p1.act = p.act ∧ p1.who = p.who ∧ p1.s = p.s ∧ p1.time = p.time := by
    rw [← hp1]
    split <;> exact ⟨rfl, rfl, rfl, rfl⟩
  have la := gp.la hb
  have tk := gp.tk hb
  generalize hj : p.at_ = j at *
  have mk : ∀ (h2 : HallS) (p2 : WProc), p2.act = p1.act → p2.who = p1.who → p2.s = p1.s → (1 ≤ p2.at_ → p2.at_ ≤ 6 → (hStr h2 p.s).latch = p.who + 1) → (p2.at_ = 3 → 1 ≤ p2.time.seq ∧ p2.time.seq ≤ h2.time.seq ∧ ∀ v, v < 8 → ∀ e ∈ ((h2.feed p.s).q v).l, e.seq < p2.time.seq) → PW c h2 p2 := fun h2 p2 e1 e2 e3 f1 f2 =>
    ⟨by rw [e2, q1.2.1]; exact gp.w0, fun x hx => by rw [e3, q1.2.2.1]; exact gp.st x (by rw [← q1.1, ← e1]; exact hx), fun _ a b => by rw [e3, q1.2.2.1, e2, q1.2.1]; exact f1 a b, fun _ a => by rw [e3, q1.2.2.1]; exact f2 a⟩
  have e0 := q1.2.1
  have es := q1.2.2.1
  rcases j with _ | _ | _ | _ | _ | _ | j
  · have hf : (hStr h p.s).latch = 0 := by
      unfold wEnabled at hen
      simp only [Bool.and_eq_true, Bool.or_eq_true, decide_eq_true_eq] at hen
      rcases hen.2 with hw | hw
      · unfold wWaits at hw
        rw [if_neg (by rw [hj]; simp [hbad])] at hw
        omega
      exact dcT hw
    have r := hLock_rel (c := c) h p1.who p1.s
    rw [e0] at r
    refine ⟨by show HE c (hLock h p1.who p1.s).1 l; rw [e0]; exact r.2 l g, mk _ _ rfl rfl rfl (fun _ _ => ?_) (fun h3 => ?_), by show HRel p.who h (hLock h p1.who p1.s).1; rw [e0]; exact r.1, ?_⟩
    · show (hStr (hLock h p1.who p1.s).1 p.s).latch = _
      rw [e0, es]
      unfold hLock
      have ht : (latchTake (hStr h p.s).latch p.who) = (p.who + 1, true) := by
        unfold latchTake
        rw [if_neg (by have := gp.w0; omega)]
      rw [ht, if_pos rfl]
      show (hStr (hSet (hDid h p.who 5 (plc p.s 1)) p.s _) p.s).latch = _
      rw [hStr_sets_at (by exact hlt)]
    · have h3 : 0 + 1 = 3 := h3
      omega
    show (hLock h p1.who p1.s).1.time.seq ≤ _
    rw [hLock_time]
    omega
  · refine ⟨HE.same g rfl (fun i => by refine book_set (hDid h p1.who 4 (plc p1.s 2)) p1.s ?_ i; rfl) (Int.le_refl _), mk _ _ rfl rfl rfl (fun _ _ => ?_) (fun h3 => ?_), HRel.same rfl (fun i => by refine latch_set (hDid h p1.who 4 (plc p1.s 2)) p1.s ?_ i; rfl) (Int.le_refl _), by show h.time.seq ≤ _; omega⟩
    · show (hStr (hSet (hDid h p1.who 4 (plc p1.s 2)) p1.s _) p.s).latch = _
      refine (latch_set (hDid h p1.who 4 (plc p1.s 2)) p1.s ?_ _).trans ?_
      · rfl
      exact la (by omega) (by omega)
    have h3 : 0 + 1 + 1 = 3 := h3
    omega
  · have et : (hTake h p1.who).time.seq = h.time.seq + 1 := by
      show tAdd h.time.seq 1 = _
      unfold tAdd
      rw [if_neg (by omega)]
    refine ⟨HE.same g rfl (fun _ => rfl) (by show h.time.seq ≤ (hTake h p1.who).time.seq; omega), mk _ _ rfl rfl rfl (fun _ _ => la (by omega) (by omega)) (fun _ => ⟨?_, ?_, fun v hv e he => ?_⟩), HRel.same rfl (fun _ => rfl) (by show h.time.seq ≤ (hTake h p1.who).time.seq; omega), by show (hTake h p1.who).time.seq ≤ _; omega⟩
    · show 1 ≤ (hTake h p1.who).time.seq
      omega
    · exact Int.le_refl _
    show e.seq < (hTake h p1.who).time.seq
    have := (g.ev p.s v hv e he).1.hi
    omega
  · obtain ⟨t1, t2, t3⟩ := tk rfl
    have la3 := la (by omega) (by omega)
    cases ea : p1.act with
    | bad => exact absurd (q1.1.symm.trans ea) hb
    | wr x =>
      simp only [wDo, ea]
      have hst := gp.st x (by rw [← q1.1, ea])
      have hbk := bWrite_chg (hStr h p.s).book x p.time.now h.cfg.sessions
      rw [e0, es, q1.2.2.2]
      by_cases hc : p.time.closed = true
      · have ew : hWrite h p.who p.s x p.time = (hWr h p.who p.s, 5) := by
          unfold hWrite
          rw [if_pos hc]
        rw [ew]
        exact ⟨HE.same g rfl (fun _ => rfl) (Int.le_refl _), mk _ _ ea.symm e0.symm es.symm (fun _ _ => la3) (fun h3 => (by have h3 : 3 + 1 = 3 := h3; omega)), HRel.same rfl (fun _ => rfl) (Int.le_refl _), by show h.time.seq ≤ _; omega⟩
      have ew : (hWrite h p.who p.s x p.time).1 = { hSet (hWr h p.who p.s) p.s { hStr h p.s with book := (bWrite (hStr h p.s).book x p.time.now h.cfg.sessions).1 } with feed := setF h.feed p.s (fTell (h.feed p.s) (bWrite (hStr h p.s).book x p.time.now h.cfg.sessions).2.1 p.time.seq) } := by
        unfold hWrite
        rw [if_neg hc]
      rw [ew]
      refine ⟨HE.tell g t1 t2 t3 hbk.2.1 (fun ch hch => ⟨(hbk.1 ch hch).2, by rw [(hbk.1 ch hch).1]; exact hst⟩) (fun u hu => ?_) p.who, mk _ _ ea.symm e0.symm es.symm (fun _ _ => ?_) (fun h3 => (by have h3 : 3 + 1 = 3 := h3; omega)), tell_rel p.who la3, by show h.time.seq ≤ _; omega⟩
      · rcases hbk.2.2 u hu with hu | rfl
        · exact g.bk _ u hu
        exact hst
      show (hStr (hSet (hWr h p.who p.s) p.s _) p.s).latch = _
      refine (latch_set (hWr h p.who p.s) p.s ?_ _).trans ?_
      · rfl
      exact la3
    | sw =>
      simp only [wDo, ea]
      have bi := (gi.st p.s).bk
      have hbk := bSweep_chg bi.1 bi.2.1 p.time.now
      rw [es, q1.2.2.2]
      refine ⟨HE.tell g t1 t2 t3 hbk.2.1 (fun ch hch => ⟨(hbk.1 ch hch).1, g.bk _ _ (hbk.1 ch hch).2⟩) (fun u hu => g.bk _ u (hbk.2.2 u hu)) 8, mk _ _ ea.symm rfl es.symm (fun _ _ => ?_) (fun h3 => (by have h3 : 3 + 1 = 3 := h3; omega)), ?_, by show h.time.seq ≤ _; omega⟩
      · show (hStr (hSet (hWr h 8 p.s) p.s _) p.s).latch = _
        refine (latch_set (hWr h 8 p.s) p.s ?_ _).trans ?_
        · rfl
        exact la3
      have r := tell_rel (h := h) (chs := (bSweep (hStr h p.s).book p.time.now).2) (N := p.time.seq) (b := (bSweep (hStr h p.s).book p.time.now).1) p.who la3
      exact ⟨r.la, r.sq, r.qe⟩
  · refine ⟨HE.same g rfl (fun i => by refine book_set (hDid (hDid h p1.who 1 (plc p1.s 4)) p1.who 4 (plc p1.s 3)) p1.s ?_ i; rfl) (Int.le_refl _), mk _ _ rfl rfl rfl (fun _ _ => ?_) (fun h3 => ?_), HRel.same rfl (fun i => by refine latch_set (hDid (hDid h p1.who 1 (plc p1.s 4)) p1.who 4 (plc p1.s 3)) p1.s ?_ i; rfl) (Int.le_refl _), by show h.time.seq ≤ _; omega⟩
    · show (hStr (hSet (hDid (hDid h p1.who 1 (plc p1.s 4)) p1.who 4 (plc p1.s 3)) p1.s _) p.s).latch = _
      refine (latch_set (hDid (hDid h p1.who 1 (plc p1.s 4)) p1.who 4 (plc p1.s 3)) p1.s ?_ _).trans ?_
      · rfl
      exact la (by omega) (by omega)
    have h3 : 4 + 1 = 3 := h3
    omega
  · refine ⟨HE.same g rfl (fun i => by refine book_set (hDid h p1.who 4 (plc p1.s 2)) p1.s ?_ i; rfl) (Int.le_refl _), mk _ _ rfl rfl rfl (fun _ _ => ?_) (fun h3 => ?_), HRel.same rfl (fun i => by refine latch_set (hDid h p1.who 4 (plc p1.s 2)) p1.s ?_ i; rfl) (Int.le_refl _), by show h.time.seq ≤ _; omega⟩
    · show (hStr (hSet (hDid h p1.who 4 (plc p1.s 2)) p1.s _) p.s).latch = _
      refine (latch_set (hDid h p1.who 4 (plc p1.s 2)) p1.s ?_ _).trans ?_
      · rfl
      exact la (by omega) (by omega)
    have h3 : 5 + 1 = 3 := h3
    omega
  have r := hUnlock_rel (c := c) h p1.who p1.s
  rw [e0] at r
  refine ⟨by show HE c (hUnlock h p1.who p1.s).1 l; rw [e0]; exact r.2 l g, mk _ _ rfl rfl rfl (fun _ h6 => ?_) (fun h3 => ?_), by show HRel p.who h (hUnlock h p1.who p1.s).1; rw [e0]; exact r.1, ?_⟩
  · have h6 : j + 1 + 1 + 1 + 1 + 1 + 1 + 1 ≤ 6 := h6
    omega
  · have h3 : j + 1 + 1 + 1 + 1 + 1 + 1 + 1 = 3 := h3
    omega
  show (hUnlock h p1.who p1.s).1.time.seq ≤ _
  rw [hUnlock_time]
  omega
variable {c : Cfg} {h h' : HallS} {k : Nat} {l l' : List CallS}
def lookAt (p : HProc) : Nat := if p.op.kind = 8 then p.n else 1
structure PD (c : Cfg) (h : HallS) (l : List CallS) (i : Nat) (p : HProc) : Prop where
  all : ∀ (s : Nat) lst, p.all[s]? = some lst → lst.Pairwise EPair ∧ ∀ e ∈ lst, EOk c h.time.seq s e ∧ Wd l i e.user
  evp : p.events.Pairwise EPair
  ev : ∀ e ∈ p.events, (e.old ≠ e.new ∧ 1 ≤ e.seq ∧ e.seq ≤ h.time.seq) ∧ Wd l i e.user
  ek : p.events ≠ [] → polls p.op = true ∧ 0 ≤ p.placed
  lk : lookAt p < p.at_ → 0 ≤ p.placed
theorem PD.other {i : Nat} {p : HProc} (g : PD c h l i p) (hs : h.time.seq ≤ h'.time.seq) (hm : ∀ w u, Wd l w u → Wd l' w u) : PD c h' l' i p :=
  ⟨fun s lst e => ⟨(g.all s lst e).1, fun e' he => ⟨((g.all s lst e).2 e' he).1.mono hs, hm _ _ ((g.all s lst e).2 e' he).2⟩⟩, g.evp, fun e he => ⟨⟨(g.ev e he).1.1, (g.ev e he).1.2.1, Int.le_trans (g.ev e he).1.2.2 hs⟩, hm _ _ (g.ev e he).2⟩, g.ek, g.lk⟩
theorem pd_new (i who : Nat) (x : Opr) (s n : Nat) : PD c h l i (hNewP who x s n) := by
  refine ⟨fun j lst e => ?_, List.Pairwise.nil, fun e he => (by cases he), fun h => absurd rfl h, fun h => absurd h (Nat.not_lt_zero _)⟩
  have : lst = [] := by
    simp only [hNewP] at e
    split at e
    · rw [List.getElem?_replicate] at e
      split at e
      · exact (Option.some.inj e).symm
      cases e
    cases e
  subst this
  exact ⟨List.Pairwise.nil, fun e he => (by cases he)⟩
theorem hActs_poll {x : Opr} {s n j : Nat} {a : HAct} (hp : polls x = true) (h : (hActs x s n)[j]? = some a) : (j < n → a = .lock j) ∧ (j = n → a = .look) ∧ (n < j → (∃ s', s' < n ∧ a = .drain s') ∨ ∃ s', s' < n ∧ a = .last s') := by
  unfold polls at hp
  simp only [Bool.and_eq_true, Bool.not_eq_true', decide_eq_true_eq] at hp
  unfold hActs at h
  rw [if_neg (by rw [hp.1]; decide), if_pos hp.2] at h
  have h1 : ((List.range n).map HAct.lock).length = n := by simp
  refine ⟨fun hj => ?_, fun hj => ?_, fun hj => ?_⟩
  · rw [List.append_assoc, List.append_assoc, List.getElem?_append_left (by rw [h1]; exact hj), List.getElem?_map, List.getElem?_range hj] at h
    exact (Option.some.inj h).symm
  · subst hj
    rw [List.append_assoc, List.append_assoc, List.getElem?_append_right (by rw [h1]; exact Nat.le_refl _), h1, Nat.sub_self] at h
    exact (Option.some.inj h).symm
  rw [List.append_assoc, List.append_assoc, List.getElem?_append_right (by rw [h1]; omega), h1, List.getElem?_append_right (by simp; omega)] at h
  have hm := List.mem_of_getElem? h
  rcases List.mem_append.1 hm with hm | hm
  · obtain ⟨s', hs', rfl⟩ := List.mem_map.1 hm
    exact .inl ⟨s', List.mem_range.1 hs', rfl⟩
  obtain ⟨s', hs', rfl⟩ := List.mem_map.1 hm
  exact .inr ⟨s', List.mem_range.1 hs', rfl⟩
theorem look_at {x : Opr} {s n j : Nat} {a : HAct} (h : (hActs x s n)[j]? = some a) (hj : j = if x.kind = 8 then n else 1) : a = .look := by
  cases hb : badOp x with
  | true =>
    obtain ⟨rfl, _⟩ := hActs_bad hb h
    have h8 : x.kind ≠ 8 := fun e => by
      unfold badOp at hb
      rw [e] at hb
      simp at hb
    rw [if_neg h8] at hj
    omega
  | false =>
    by_cases h8 : x.kind = 8
    · rw [if_pos h8] at hj
      exact (hActs_poll (by unfold polls; rw [hb, decide_eq_true h8]; rfl) h).2.1 hj
    rw [if_neg h8] at hj
    obtain ⟨_, h2, h3⟩ := hActs_at hb h
    by_cases h9 : x.kind = 9
    · have := (h2 h9).1
      omega
    rcases h3 h8 h9 with e | e | e | e
    · omega
    · exact e.2
    · omega
    omega
theorem HE.feed (g : HE c h l) {s : Nat} {f : FeedS} (hf : FdI f) (hw : ∀ (w : Nat) u, w < 8 → fWatching f (w : Int) u = true → Wd l w u) (hq : ∀ w, w < 8 → (f.q w).l = ((h.feed s).q w).l ∨ (f.q w).l = []) (who : Int) (s' : Nat) : HE c { hWr h who s' with feed := setF h.feed s f } l ∧ HRel who h { hWr h who s' with feed := setF h.feed s f } := by
  refine ⟨⟨fun i => ?_, g.bk, fun i w u hw' hf' => ?_, fun i w hw' e he => ?_, fun i w hw' => ?_⟩, fun i z _ _ e => e, Int.le_refl _, fun i v e hv he => ?_⟩
  · show FdI (setF h.feed s f i)
    rw [setF_at]
    split
    · exact hf
    exact g.fd i
  · replace hf' : fWatching (setF h.feed s f i) (w : Int) u = true := hf'
    rw [setF_at] at hf'
    split at hf'
    · exact hw w u hw' hf'
    exact g.wt i w u hw' hf'
  · replace he : e ∈ ((setF h.feed s f i).q w).l := he
    rw [setF_at] at he
    split at he
    · rename_i ei
      subst ei
      rcases hq w hw' with e1 | e1 <;> rw [e1] at he
      · exact g.ev i w hw' e he
      cases he
    exact g.ev i w hw' e he
  · show ((setF h.feed s f i).q w).l.Pairwise EPair
    rw [setF_at]
    split
    · rename_i ei
      subst ei
      rcases hq w hw' with e1 | e1 <;> rw [e1]
      · exact g.pw i w hw'
      exact List.Pairwise.nil
    exact g.pw i w hw'
  replace he : e ∈ ((setF h.feed s f i).q v).l := he
  rw [setF_at] at he
  split at he
  · rename_i ei
    subst ei
    rcases hq v hv with e1 | e1 <;> rw [e1] at he
    · exact .inl he
    cases he
  exact .inl he
theorem getD_some {α : Type} {l : List (List α)} {j : Nat} {e : α} (h : e ∈ l.getD j []) : l[j]? = some (l.getD j []) := by
  rw [List.getD_eq_getElem?_getD] at h ⊢
  cases e' : l[j]? with
  | none => rw [e'] at h; cases h
  | some x => rfl
theorem d_act {i : Nat} {m : MineS} {p : HProc} {a : HAct} (d : DI c p) (hi : p.who = i) (hi8 : i < 8) (ha : p.acts[p.at_]? = some a) (g : HE c h l) (gp : PD c h l i p) (hx : p.op.kind = 6 → 0 ≤ p.placed → Wd l i p.op.user) :
    HE c (hAct h m p a).1 l ∧ HRel (i : Int) h (hAct h m p a).1 ∧ (hAct h m p a).1.time.seq = h.time.seq ∧ (∀ (s : Nat) lst, (hAct h m p a).2.2.1.all[s]? = some lst → lst.Pairwise EPair ∧ ∀ e ∈ lst, EOk c h.time.seq s e ∧ Wd l i e.user) ∧
      ((hAct h m p a).2.2.1.events = p.events ∨ polls p.op = true ∧ 0 ≤ p.placed ∧ (hAct h m p a).2.2.1.events.Pairwise EPair ∧ ∀ e ∈ (hAct h m p a).2.2.1.events, (e.old ≠ e.new ∧ 1 ≤ e.seq ∧ e.seq ≤ h.time.seq) ∧ Wd l i e.user) := by
  subst hi
  have hm := d.acts ▸ ha
  have hmem := hActs_mem (List.mem_of_getElem? hm)
  cases a with
  | bad => exact ⟨g, HRel.refl _ _, rfl, gp.all, .inl rfl⟩
  | shut => exact ⟨HE.same g rfl (fun _ => rfl) (Int.le_refl _), HRel.same rfl (fun _ => rfl) (Int.le_refl _), rfl, gp.all, .inl rfl⟩
  | look => exact ⟨HE.same g rfl (fun _ => rfl) (Int.le_refl _), HRel.same rfl (fun _ => rfl) (Int.le_refl _), rfl, gp.all, .inl rfl⟩
  | lock s =>
    obtain ⟨r1, r2⟩ := hLock_rel (c := c) h p.who s
    exact ⟨r2 l g, r1, by show (hLock h p.who s).1.time.seq = _; rw [hLock_time], gp.all, .inl rfl⟩
  | unlock s =>
    obtain ⟨r1, r2⟩ := hUnlock_rel (c := c) h p.who s
    exact ⟨r2 l g, r1, by show (hUnlock h p.who s).1.time.seq = _; rw [hUnlock_time], gp.all, .inl rfl⟩
  | watch =>
    have hb : badOp p.op = false := by
      cases e : badOp p.op
      · rfl
      · have := (hActs_bad e hm).2
        cases this
    have h8 : p.op.kind ≠ 8 := fun e => by
      obtain ⟨a1, a2, a3⟩ := hActs_poll (by unfold polls; rw [hb, decide_eq_true e]; rfl) hm
      rcases Nat.lt_trichotomy p.at_ p.n with h | h | h
      · have := a1 h; cases this
      · have := a2 h; cases this
      · rcases a3 h with ⟨_, _, h⟩ | ⟨_, _, h⟩ <;> cases h
    have h9 : p.op.kind ≠ 9 := fun e => by
      have := ((hActs_at hb hm).2.1 e).2
      cases this
    have hat : p.at_ = 2 := by
      rcases (hActs_at hb hm).2.2 h8 h9 with e | e | e | e
      · cases e.2
      · cases e.2
      · exact e.1
      · cases e.2
    have hpl : 0 ≤ p.placed := gp.lk (by unfold lookAt; rw [if_neg h8, hat]; decide)
    simp only [hAct]
    split
    · exact ⟨g, HRel.refl _ _, rfl, gp.all, .inl rfl⟩
    · split
      · exact ⟨g, HRel.refl _ _, rfl, gp.all, .inl rfl⟩
      · have key : FdI (if hOn p = true then fWatch (h.feed p.s) (p.who : Int) p.op.user else fUnwatch (h.feed p.s) (p.who : Int) p.op.user) ∧ (∀ (w : Nat) u, w < 8 → fWatching (if hOn p = true then fWatch (h.feed p.s) (p.who : Int) p.op.user else fUnwatch (h.feed p.s) (p.who : Int) p.op.user) (w : Int) u = true → Wd l w u) ∧ (if hOn p = true then fWatch (h.feed p.s) (p.who : Int) p.op.user else fUnwatch (h.feed p.s) (p.who : Int) p.op.user).q = (h.feed p.s).q := by
          split
          · rename_i hon
            obtain ⟨f1, f2⟩ := fWatch_I (g.fd p.s) hi8 p.op.user
            refine ⟨f1, fun w u hw hf => ?_, fWatch_q _ _ _⟩
            rw [f2 w hw] at hf
            simp only [Bool.or_eq_true, Bool.and_eq_true, decide_eq_true_eq] at hf
            rcases hf with hf | ⟨rfl, rfl⟩
            · exact g.wt _ w u hw hf
            · exact hx (of_decide_eq_true hon) hpl
          · obtain ⟨f1, f2⟩ := fUnwatch_I (g.fd p.s) hi8 p.op.user
            refine ⟨f1, fun w u hw hf => ?_, fUnwatch_q _ _ _⟩
            rw [f2 w hw] at hf
            simp only [Bool.and_eq_true] at hf
            exact g.wt _ w u hw hf.1
        obtain ⟨r1, r2⟩ := g.feed (s := p.s) key.1 key.2.1 (fun w hw => .inl (by rw [key.2.2])) (p.who : Int) p.s
        exact ⟨r1, r2, rfl, gp.all, .inl rfl⟩
  | drain s =>
    obtain ⟨r1, r2⟩ := g.feed (s := s) (f := fDrain (h.feed s) p.who) ((g.fd s).drain _) (fun w u hw hf => g.wt s w u hw hf) (fun w hw => by
      unfold fDrain setQ
      simp only
      split
      · exact .inr rfl
      · exact .inl rfl) (p.who : Int) s
    refine ⟨r1, r2, rfl, fun j lst e => ?_, .inl rfl⟩
    rcases set_at e with ⟨rfl, rfl⟩ | ⟨_, e⟩
    · exact ⟨g.pw _ _ hi8, fun e he => g.ev _ _ hi8 e he⟩
    · exact gp.all j lst e
  | last s =>
    obtain ⟨r1, r2⟩ := hUnlock_rel (c := c) h p.who s
    refine ⟨r2 l g, r1, by show (hUnlock h p.who s).1.time.seq = _; rw [hUnlock_time], gp.all, ?_⟩
    show (if (s : Int) = (p.n : Int) - 1 then fMerge p.all else p.events) = p.events ∨ polls p.op = true ∧ 0 ≤ p.placed ∧ (if (s : Int) = (p.n : Int) - 1 then fMerge p.all else p.events).Pairwise EPair ∧ ∀ e ∈ (if (s : Int) = (p.n : Int) - 1 then fMerge p.all else p.events), _
    split
    · have hpo : polls p.op = true := hmem.2
      have h8 : p.op.kind = 8 := by
        unfold polls at hpo
        simp only [Bool.and_eq_true, decide_eq_true_eq] at hpo
        exact hpo.2
      have hlk : lookAt p < p.at_ := by
        obtain ⟨a1, a2, a3⟩ := hActs_poll hpo hm
        unfold lookAt
        rw [if_pos h8]
        rcases Nat.lt_trichotomy p.at_ p.n with h | h | h
        · have := a1 h; cases this
        · have := a2 h; cases this
        · exact h
      refine .inr ⟨hpo, gp.lk hlk, fMerge_pair (fun j => ?_) (fun j1 j2 hne e he f hf => ?_), fun e he => ?_⟩
      · rw [List.getD_eq_getElem?_getD]
        cases e : p.all[j]? with
        | none => exact List.Pairwise.nil
        | some lst => exact (gp.all j lst e).1
      · have h1 := ((gp.all j1 _ (getD_some he)).2 e he).1.st
        have h2 := ((gp.all j2 _ (getD_some hf)).2 f hf).1.st
        intro e'
        rw [e', h2] at h1
        omega
      · obtain ⟨j, hj⟩ := fMerge_mem he
        obtain ⟨e1, e2⟩ := (gp.all j _ (getD_some hj)).2 e hj
        exact ⟨⟨e1.ne, e1.lo, e1.hi⟩, e2⟩
    · exact .inl rfl
theorem d_wat {i : Nat} {m : MineS} {p : HProc} (d : DI c p) (hi : p.who = i) (hi8 : i < 8) (g : HE c h l) (gp : PD c h l i p) (hx : p.op.kind = 6 → 0 ≤ p.placed → Wd l i p.op.user) {pos : Int} (hpos : 0 ≤ pos) :
    HE c (hdStep h m p pos).1 l ∧ PD c (hdStep h m p pos).1 l i (hdStep h m p pos).2.2 ∧ HRel (i : Int) h (hdStep h m p pos).1 ∧ (hdStep h m p pos).1.time.seq = h.time.seq := by
  unfold hdStep
  split
  · exact ⟨g, gp, HRel.refl _ _, rfl⟩
  cases ha : p.acts[p.at_]? with
  | none => exact ⟨g, gp, HRel.refl _ _, rfl⟩
  | some a =>
    obtain ⟨a1, a2, a3, a4, a5⟩ := d_act (m := m) d hi hi8 ha g gp hx
    obtain ⟨k1, k2, k3, k4, k5, k6⟩ := hAct_keep h m p a
    have hpl : 0 ≤ p.placed → 0 ≤ if (hAct h m p a).2.2.2 = true then pos else (hAct h m p a).2.2.1.placed := fun h0 => by
      split
      · exact hpos
      rw [k5]
      exact h0
    refine ⟨a1, ⟨fun s lst e => ?_, ?_, fun e he => ?_, fun hne => ?_, fun hlt => ?_⟩, a2, a3⟩
    · have := a4 s lst e
      show _ ∧ ∀ e ∈ lst, EOk c (hAct h m p a).1.time.seq s e ∧ _
      rw [a3]
      exact this
    · show (hAct h m p a).2.2.1.events.Pairwise EPair
      rcases a5 with e | ⟨_, _, e, _⟩
      · rw [e]
        exact gp.evp
      exact e
    · have he : e ∈ (hAct h m p a).2.2.1.events := he
      show (_ ∧ _ ∧ e.seq ≤ (hAct h m p a).1.time.seq) ∧ _
      rw [a3]
      rcases a5 with e' | ⟨_, _, _, e'⟩
      · rw [e'] at he
        exact gp.ev e he
      exact e' e he
    · show polls (hAct h m p a).2.2.1.op = true ∧ 0 ≤ if (hAct h m p a).2.2.2 = true then pos else (hAct h m p a).2.2.1.placed
      rw [k3]
      have hne : (hAct h m p a).2.2.1.events ≠ [] := hne
      rcases a5 with e | ⟨e1, e2, _, _⟩
      · rw [e] at hne
        exact ⟨(gp.ek hne).1, hpl (gp.ek hne).2⟩
      exact ⟨e1, hpl e2⟩
    show 0 ≤ if (hAct h m p a).2.2.2 = true then pos else (hAct h m p a).2.2.1.placed
    have hlk : lookAt p ≤ p.at_ := by
      have hlt : (if (hAct h m p a).2.2.1.op.kind = 8 then (hAct h m p a).2.2.1.n else 1) < p.at_ + 1 := hlt
      have hn : (hAct h m p a).2.2.1.n = p.n := by
        cases a <;> first | rfl | skip
        simp only [hAct]
        split
        · rfl
        split <;> rfl
      rw [k3, hn] at hlt
      unfold lookAt
      omega
    rcases Nat.lt_or_eq_of_le hlk with h1 | h1
    · exact hpl (gp.lk h1)
    have : a = .look := look_at (d.acts ▸ ha) h1.symm
    subst this
    exact hpos
/-! ### Processes that read -/
theorem r_wat {p : RProc} (g : HE c h l) (pos : Int) : HE c (rStep h p pos).1 l ∧ HRel (p.who : Int) h (rStep h p pos).1 := by
  have id_ : ∀ h2 : HallS, h2.feed = h.feed → h2.strs = h.strs → h2.time = h.time → HE c h2 l ∧ HRel (p.who : Int) h h2 := fun h2 e1 e2 e3 => by
    have es : ∀ s, hStr h2 s = hStr h s := fun s => by
      unfold hStr
      rw [e2]
    exact ⟨HE.same g e1 (fun s => by rw [es]) (by rw [e3]; exact Int.le_refl _), HRel.same e1 (fun s => by rw [es]) (by rw [e3]; exact Int.le_refl _)⟩
  unfold rStep
  split
  · exact id_ _ rfl rfl rfl
  split
  · exact id_ _ rfl rfl rfl
  unfold rDo
  split
  · exact id_ _ rfl rfl rfl
  · exact id_ _ rfl rfl rfl
  · exact id_ _ rfl rfl rfl
  · exact id_ _ rfl rfl rfl
  · obtain ⟨r1, r2⟩ := hLock_rel (c := c) h p.who (rS p)
    exact ⟨r2 l g, r1⟩
  · exact id_ _ rfl rfl rfl
  · exact id_ _ rfl rfl rfl
  · obtain ⟨r1, r2⟩ := hUnlock_rel (c := c) h p.who (rS p)
    exact ⟨r2 l g, r1⟩
  exact id_ _ rfl rfl rfl
theorem Fr.eqP {n : Sz} {E : Env} {dd : Option Nat} {ty : TypeId} {pos : String} {af : Array Edge} {gd : Option (Nat × Bool)} {x y : Operand} {t' : TypeId} {p q : Pres} (h : ev E x = some (.agg (presC p).toArray)) (h' : ev E y = some (.agg (presC q).toArray)) : Fr n ⟨dd, .binOp .eql 72 x y t', ty, pos, af, gd⟩ E (.bool (decide (p = q))) := Fr.bo' h h' fun w => by
  rw [Sem.run_bind, run_eqGuard_agg w .eql 72 x y _ _ (by kernel_rfl), Result.andThen_ok]
  show (do pure (Value.bool (← Op.equal 72 (.agg (presC p).toArray) (.agg (presC q).toArray))) : Sem Value).run P w = _
  rw [Sem.run_bind, run_eqPres]
  rfl
def wJ (x : CallS) (v : Event) (y : CallS) : Bool := decide (y.who = x.who) && decide (y.op.kind = 6) && decide (y.op.user = v.user) && decide (0 ≤ y.placed) && decide (y.placed < x.placed)
def wAt (l : List CallS) (x : CallS) (v : Event) (j : Nat) : Bool := (l.take j).any (wJ x v)
theorem wAt_succ {l : List CallS} {j : Nat} (h : j < l.length) (x : CallS) (v : Event) : wAt l x v (j + 1) = (wAt l x v j || wJ x v l[j]) := by
  unfold wAt
  rw [List.take_succ_eq_append_getElem h, List.any_append]
  simp
def wBad (w : Bool) (v : Event) (now : Int) (x : CallS) : Bool := !w || decide (v.old = v.new) || decide (v.seq < 1) || decide (now < v.seq) || !decide (x.op.kind = 8)
def wDup (v u : Event) : Bool := decide (v.seq < u.seq) || (decide (u.seq = v.seq) && decide (u.user = v.user))
def WatchLaw (l : List CallS) (now : Int) : Prop := ∀ i (h : i < l.length) k (hk : k < l[i].reply.events.length), wBad (wAt l l[i] l[i].reply.events[k] i) l[i].reply.events[k] now l[i] = false ∧ ∀ j (hj : j < k), wDup l[i].reply.events[k] (l[i].reply.events[j]'(Nat.lt_trans hj hk)) = false
theorem watch_walk {s : Script} {cv pv : Value} (t : TW) (hc : Sl t (kSl kOp) cv s.clients) (hp : Sl t kPick pv s.picks) (hw : WordsS s) (ha : GoodS aS) (hg : shortS s 900 = true → checkS s = 0 → GoodS s) (hE : shortS s 900 = true → checkS s = 0 → ∀ fp, WatchLaw (runPlay s fp s.picks.length).calls (runPlay s fp s.picks.length).h.time.seq) : Cal 6 [.agg (cfgC s.cfg ++ [cv, pv]).toArray] t RT (fun v _ => v = .bool true) := by
  obtain ⟨Ac, cc, rfl, _⟩ := hc.form
  obtain ⟨Ap, cp, rfl, _⟩ := hp.form
  have haw := fun t => awake_walk t (fun fp k hk => ha.ok fp k (Nat.le_of_lt hk)) (fun fp => ⟨ha.ok fp 11 (Nat.le_refl _), ha.sz fp⟩)
  refine Cal.en Tryz.func6 rfl Tryz.ntmps6 <| WC.rs <| WL.e (Ef.bx (.loc 1) (cs := [.int .i64 s.cfg.stripes, .int .i64 s.cfg.sessions, .int .i64 s.cfg.queue, .int .i64 s.cfg.watches, .int .i64 s.cfg.retries, .int .u64 s.cfg.epochs, .int .u64 s.cfg.start, .slice Ac s.clients.length cc, .slice Ap s.picks.length cp]) rfl) ?_
  rintro _ t1 ⟨b1, rfl, s1, hb1, nb1, mb1⟩
  obtain ⟨hc, hp⟩ := Q2 (hc.n s1) (hp.n s1)
  refine WL.a rfl <| WL.go <| WC.seq <| WC.rs <| WL.e (Ef.call rfl en7 (haw _) (fun _ h => h)) ?_
  rintro _ t2 ⟨s2, rfl⟩
  have hc := hc.step s2 (fun h => h)
  have hp := hp.step s2 (fun h => h)
  have hb1 := hb1.step s2 (fun h => h)
  refine WL.f (Fr.un_not rfl) <| WL.m rfl <| WL.r (Rd.la rfl ag28 (hb1.at (vs := [.int .i64 s.cfg.stripes, .int .i64 s.cfg.sessions, .int .i64 s.cfg.queue, .int .i64 s.cfg.watches, .int .i64 s.cfg.retries, .int .u64 s.cfg.epochs, .int .u64 s.cfg.start, .slice Ac s.clients.length cc, .slice Ap s.picks.length cp]) rfl)) <| WL.e (Ef.call rfl en8 (ref_Short12 900 _ hc hp) (fun _ h => h.elim)) ?_
  rintro _ t3 ⟨s3, rfl⟩
  obtain ⟨hb1, hc, hp⟩ := Q3 (hb1.n s3) (hc.n s3) (hp.n s3)
  refine WL.f (Fr.un_not rfl) <| WL.f (Fr.pkF rfl rfl) <| WL.go ?_
  refine WC.condS rfl (fun hcond19 => ?_) (fun hcond19 => ?_)
  · refine WC.rs <| WL.e (Ef.call rfl en7 (haw _) (fun _ h => h)) ?_
    rintro _ t4 ⟨s4, rfl⟩
    exact WL.a rfl <| WL.go <| WC.ret <| WQ.tr <| WQ.ret rfl (.tmp rfl .nil) (rfl)
  have hsh : shortS s 900 = true := notE hcond19
  refine WC.skip <| WQ.n <| WC.rs <| WL.r (Rd.la rfl ag28 (hb1.at (vs := [.int .i64 s.cfg.stripes, .int .i64 s.cfg.sessions, .int .i64 s.cfg.queue, .int .i64 s.cfg.watches, .int .i64 s.cfg.retries, .int .u64 s.cfg.epochs, .int .u64 s.cfg.start, .slice Ac s.clients.length cc, .slice Ap s.picks.length cp]) rfl)) <| WL.e (Ef.call rfl en9 (good_play _ hc hp hw hsh (hg hsh)) (fun _ h => h)) ?_
  rintro _ t5 ⟨s5, oq, rfl, hno, hyes⟩
  refine WL.m rfl <| WL.f (Fr.ext rfl rfl) <| WL.f (Fr.ext rfl rfl) <| WL.a rfl <| WL.a rfl <| WL.go <| WC.seq <| WC.rs <| WL.m rfl <| WL.f (Fr.bo rfl rfl BO.ne) ?_
  refine WL.go ?_
  refine WC.condS rfl (fun hcond27 => ?_) (fun hcond27 => ?_)
  · have hck : checkS s ≠ 0 := dcF (notE hcond27)
    obtain rfl := hno hck
    exact WC.rs <| WL.m rfl <| WL.f (Fr.ptr0 rfl Tryz.underlying31) <| WL.a rfl <| WL.go <| WC.ret <| WQ.tr <| WQ.ret rfl (.tmp rfl .nil) (rfl)
  have hck : checkS s = 0 := dcT (notE hcond27)
  obtain ⟨rb, fp, rfl, hR⟩ := hyes hck
  have hEf := hE hsh hck fp
  obtain ⟨cs, hcs⟩ : ∃ cs, cs = (runPlay s fp s.picks.length).calls := ⟨_, rfl⟩
  rw [← hcs] at hEf
  refine WC.skip <| WQ.n <| WC.rs <| WL.m rfl <| WL.e (Ef.call rfl en10 (run_Calls _ hR ((hg hsh hck).ok fp _ (Nat.le_refl _)).kl ((hg hsh hck).sz fp)) (fun _ h => h.elim)) ?_
  rintro v31 t6 ⟨s6, hk⟩
  have hR := IsRun.step hR s6 (by first | exact fun _ h => h.elim | (rintro _ rfl; exact id)) id
  rw [← hcs] at hk
  have hcl : cs.length ≤ 900000 := by rw [hcs]; exact ((hg hsh hck).ok fp _ (Nat.le_refl _)).kl
  have hsz : ∀ x ∈ cs, x.op.users.length ≤ 1000000 ∧ x.reply.values.length ≤ 1000000 ∧ x.reply.events.length ≤ 1000000 := by rw [hcs]; exact (hg hsh hck).sz fp
  obtain ⟨Ak, ck, rfl, _⟩ := hk.form
  refine WL.a rfl <| WL.go <| WC.seq <| WC.rs <| WL.a rfl <| WL.go <| WC.block <| WC.loop (σ := Nat) (fun i t' => IsRun t' rb (runPlay s fp s.picks.length) ∧ Sl t' kCall (.slice Ak cs.length ck) cs ∧ i ≤ cs.length ∧ True) (fun i => [(3, .pointer (some ⟨rb, 0, none⟩)), (5, .slice Ak cs.length ck), (6, .int .i64 (i : Int))]) (fun i => cs.length - i) 0 ⟨rfl, rfl, rfl, trivial⟩ ⟨hR, hk, Nat.zero_le _, trivial⟩ ?_
  rintro i t7 ⟨hR, hk, hil, _⟩
  refine WC.seq <| WC.rs <| WL.m rfl <| WL.m rfl <| WL.f (Fr.ln rfl Tryz.underlying35) <| WL.f (Fr.bo rfl rfl BO.lt) <| WL.go ?_
  refine WC.condS rfl (fun hcond35 => ?_) (fun hcond35 => ?_)
  · have hlt : i < cs.length := by have := dcT hcond35; omega
    refine WC.skip <| WQ.n <| WC.seq <| WC.block <| WC.rs <| WL.m rfl <| WL.m rfl ?_
    obtain ⟨b2, o2, c2, d2, eq2, hc2, ⟨uv, vv, ev, rfl, hu, hv, he⟩, hA, hlb2, _⟩ := hk.at_ (List.getElem?_eq_getElem hlt)
    obtain ⟨hAk, _, _⟩ := Value.slice.inj eq2
    obtain ⟨Au, cu, rfl, _⟩ := hu.form
    obtain ⟨Av, cw, rfl, _⟩ := hv.form
    obtain ⟨Ae, ce, rfl, _⟩ := he.form
    have hel : cs[i].reply.events.length ≤ 1000000 := (hsz _ (List.getElem_mem hlt)).2.2
    refine WL.f (Fr.ix (congrArg (fun A => some (Value.slice A cs.length ck)) hAk) rfl sl35 (by omega) (by omega) (o' := o2 + i * 18) (by simp)) <| WL.r (Rd.la rfl ag61 hA) <| WL.e (Ef.al (.loc 7) zr61) ?_
    rintro _ t8 ⟨b7, rfl, s8, hb7, nb7, mb7⟩
    have hR := IsRun.step hR s8 (by first | exact fun _ h => h.elim | (rintro _ rfl; exact id)) id
    obtain ⟨he, hk⟩ := Q2 (he.n s8) (hk.n s8)
    refine WL.e0 (Ef.T [.int .i64 cs[i].who, .int .i64 cs[i].nth, .int .i64 cs[i].op.kind, .string cs[i].op.user, .int .i64 cs[i].op.id, .int .i64 cs[i].op.status, .int .i64 cs[i].op.prio, .int .u64 cs[i].op.ttl, .slice Au cs[i].op.users.length cu, .int .i64 cs[i].stripe, .int .u64 cs[i].by_, .int .i64 cs[i].began, .int .i64 cs[i].placed, .int .i64 cs[i].ended, .int .i64 cs[i].reply.err, .slice Av cs[i].reply.values.length cw, .slice Ae cs[i].reply.events.length ce, .bool cs[i].reply.lost] rfl rfl hb7 sz61 (.inl nb7)) ?_
    rintro _ t9 ⟨u9, s9, hb7'⟩
    have hb7 : Bk t9 b7 [.int .i64 cs[i].who, .int .i64 cs[i].nth, .int .i64 cs[i].op.kind, .string cs[i].op.user, .int .i64 cs[i].op.id, .int .i64 cs[i].op.status, .int .i64 cs[i].op.prio, .int .u64 cs[i].op.ttl, .slice Au cs[i].op.users.length cu, .int .i64 cs[i].stripe, .int .u64 cs[i].by_, .int .i64 cs[i].began, .int .i64 cs[i].placed, .int .i64 cs[i].ended, .int .i64 cs[i].reply.err, .slice Av cs[i].reply.values.length cw, .slice Ae cs[i].reply.events.length ce, .bool cs[i].reply.lost] _ _ := hb7'
    clear hb7'
    have hR := IsRun.step hR s9 (by first | exact fun _ h => h.elim | (rintro _ rfl; exact id)) nofun
    obtain ⟨he, hk⟩ := Q2 (he.n s9) (hk.n s9)
    refine WL.go <| WC.rs <| WL.a rfl <| WL.go <| WC.block <| WC.loop (σ := Nat) (fun k t' => IsRun t' rb (runPlay s fp s.picks.length) ∧ Sl t' kCall (.slice Ak cs.length ck) cs ∧ Sl t' kEvent (.slice Ae cs[i].reply.events.length ce) cs[i].reply.events ∧ Bk t' b7 [.int .i64 cs[i].who, .int .i64 cs[i].nth, .int .i64 cs[i].op.kind, .string cs[i].op.user, .int .i64 cs[i].op.id, .int .i64 cs[i].op.status, .int .i64 cs[i].op.prio, .int .u64 cs[i].op.ttl, .slice Au cs[i].op.users.length cu, .int .i64 cs[i].stripe, .int .u64 cs[i].by_, .int .i64 cs[i].began, .int .i64 cs[i].placed, .int .i64 cs[i].ended, .int .i64 cs[i].reply.err, .slice Av cs[i].reply.values.length cw, .slice Ae cs[i].reply.events.length ce, .bool cs[i].reply.lost] 61 (.loc 7) ∧ k ≤ cs[i].reply.events.length ∧ True) (fun k => [(3, .pointer (some ⟨rb, 0, none⟩)), (5, .slice Ak cs.length ck), (6, .int .i64 (i : Int)), (7, .pointer (some ⟨b7, 0, none⟩)), (8, .int .i64 (k : Int))]) (fun k => cs[i].reply.events.length - k) 0 ⟨rfl, rfl, rfl, rfl, rfl, trivial⟩ ⟨hR, hk, he, hb7, Nat.zero_le _, trivial⟩ ?_
    rintro k t10 ⟨hR, hk, he, hb7, hkl, _⟩
    refine WC.seq <| WC.rs <| WL.m rfl <| WL.q 14 rfl fa61_8 <| WL.q 16 rfl fa59_2 <| WL.r (Rd.ld rfl sc48 (hb7.cell rfl)) <| WL.f (Fr.ln rfl Tryz.underlying48) <| WL.f (Fr.bo rfl rfl BO.lt) <| WL.go ?_
    refine WC.condS rfl (fun hcond47 => ?_) (fun hcond47 => ?_)
    · have hkt : k < cs[i].reply.events.length := by have := dcT hcond47; omega
      obtain ⟨g1, g2⟩ := hEf i hlt k hkt
      refine WC.skip <| WQ.n <| WC.seq <| WC.block <| WC.rs <| WL.q 14 rfl fa61_8 <| WL.q 16 rfl fa59_2 <| WL.r (Rd.ld rfl sc48 (hb7.cell rfl)) <| WL.m rfl ?_
      obtain ⟨b3, o3, c3, d3, eq3, hc3, rfl, hAe, hlb3, _⟩ := he.at_ (List.getElem?_eq_getElem hkt)
      obtain ⟨hAeq, _, _⟩ := Value.slice.inj eq3
      refine WL.f (Fr.ix (congrArg (fun A => some (Value.slice A cs[i].reply.events.length ce)) hAeq) rfl sl48 (by omega) (by omega) (o' := o3 + k * 8) (by simp)) <| WL.r (Rd.la rfl ag74 hAe) <| WL.e (Ef.al (.loc 9) zr74) ?_
      rintro _ t11 ⟨b9, rfl, s11, hb9, nb9, mb9⟩
      have hR := IsRun.step hR s11 (by first | exact fun _ h => h.elim | (rintro _ rfl; exact id)) id
      obtain ⟨hb7, he, hk⟩ := Q3 (hb7.n s11) (he.n s11) (hk.n s11)
      refine WL.e0 (Ef.T [.string cs[i].reply.events[k].user, .int .i64 cs[i].reply.events[k].old.status, .int .i64 cs[i].reply.events[k].old.prio, .int .i64 cs[i].reply.events[k].old.live, .int .i64 cs[i].reply.events[k].new.status, .int .i64 cs[i].reply.events[k].new.prio, .int .i64 cs[i].reply.events[k].new.live, .int .u64 cs[i].reply.events[k].seq] rfl rfl hb9 sz74 (.inl nb9)) ?_
      rintro _ t12 ⟨u12, s12, hb9'⟩
      have hb9 : Bk t12 b9 [.string cs[i].reply.events[k].user, .int .i64 cs[i].reply.events[k].old.status, .int .i64 cs[i].reply.events[k].old.prio, .int .i64 cs[i].reply.events[k].old.live, .int .i64 cs[i].reply.events[k].new.status, .int .i64 cs[i].reply.events[k].new.prio, .int .i64 cs[i].reply.events[k].new.live, .int .u64 cs[i].reply.events[k].seq] _ _ := hb9'
      clear hb9'
      have hR := IsRun.step hR s12 (by first | exact fun _ h => h.elim | (rintro _ rfl; exact id)) nofun
      obtain ⟨hb7, he, hk⟩ := Q3 (hb7.n s12) (he.n s12) (hk.n s12)
      refine WL.go <| WC.rs <| WL.a rfl <| WL.go <| WC.seq <| WC.rs <| WL.a rfl <| WL.go <| WC.block <| WC.loop (σ := Nat) (fun j t' => IsRun t' rb (runPlay s fp s.picks.length) ∧ Sl t' kCall (.slice Ak cs.length ck) cs ∧ Sl t' kEvent (.slice Ae cs[i].reply.events.length ce) cs[i].reply.events ∧ Bk t' b7 [.int .i64 cs[i].who, .int .i64 cs[i].nth, .int .i64 cs[i].op.kind, .string cs[i].op.user, .int .i64 cs[i].op.id, .int .i64 cs[i].op.status, .int .i64 cs[i].op.prio, .int .u64 cs[i].op.ttl, .slice Au cs[i].op.users.length cu, .int .i64 cs[i].stripe, .int .u64 cs[i].by_, .int .i64 cs[i].began, .int .i64 cs[i].placed, .int .i64 cs[i].ended, .int .i64 cs[i].reply.err, .slice Av cs[i].reply.values.length cw, .slice Ae cs[i].reply.events.length ce, .bool cs[i].reply.lost] 61 (.loc 7) ∧ Bk t' b9 [.string cs[i].reply.events[k].user, .int .i64 cs[i].reply.events[k].old.status, .int .i64 cs[i].reply.events[k].old.prio, .int .i64 cs[i].reply.events[k].old.live, .int .i64 cs[i].reply.events[k].new.status, .int .i64 cs[i].reply.events[k].new.prio, .int .i64 cs[i].reply.events[k].new.live, .int .u64 cs[i].reply.events[k].seq] 74 (.loc 9) ∧ j ≤ i ∧ True) (fun j => [(3, .pointer (some ⟨rb, 0, none⟩)), (5, .slice Ak cs.length ck), (6, .int .i64 (i : Int)), (7, .pointer (some ⟨b7, 0, none⟩)), (8, .int .i64 (k : Int)), (9, .pointer (some ⟨b9, 0, none⟩)), (10, .bool (wAt cs cs[i] cs[i].reply.events[k] j)), (11, .int .i64 (j : Int))]) (fun j => i - j) 0 ⟨rfl, rfl, rfl, rfl, rfl, rfl, rfl, rfl, trivial⟩ ⟨hR, hk, he, hb7, hb9, Nat.zero_le _, trivial⟩ ?_
      rintro j t13 ⟨hR, hk, he, hb7, hb9, hji, _⟩
      refine WC.seq <| WC.rs <| WL.m rfl <| WL.m rfl <| WL.f (Fr.bo rfl rfl BO.lt) <| WL.go ?_
      refine WC.condS rfl (fun hcond58 => ?_) (fun hcond58 => ?_)
      · have hjt : j < i := by have := dcT hcond58; omega
        have hjc : j < cs.length := by omega
        have hsucc := wAt_succ hjc cs[i] cs[i].reply.events[k]
        refine WC.skip <| WQ.n ?_
        refine WC.seqJ (σ := Unit) (fun _ t' => IsRun t' rb (runPlay s fp s.picks.length) ∧ Sl t' kCall (.slice Ak cs.length ck) cs ∧ Sl t' kEvent (.slice Ae cs[i].reply.events.length ce) cs[i].reply.events ∧ Bk t' b7 [.int .i64 cs[i].who, .int .i64 cs[i].nth, .int .i64 cs[i].op.kind, .string cs[i].op.user, .int .i64 cs[i].op.id, .int .i64 cs[i].op.status, .int .i64 cs[i].op.prio, .int .u64 cs[i].op.ttl, .slice Au cs[i].op.users.length cu, .int .i64 cs[i].stripe, .int .u64 cs[i].by_, .int .i64 cs[i].began, .int .i64 cs[i].placed, .int .i64 cs[i].ended, .int .i64 cs[i].reply.err, .slice Av cs[i].reply.values.length cw, .slice Ae cs[i].reply.events.length ce, .bool cs[i].reply.lost] 61 (.loc 7) ∧ Bk t' b9 [.string cs[i].reply.events[k].user, .int .i64 cs[i].reply.events[k].old.status, .int .i64 cs[i].reply.events[k].old.prio, .int .i64 cs[i].reply.events[k].old.live, .int .i64 cs[i].reply.events[k].new.status, .int .i64 cs[i].reply.events[k].new.prio, .int .i64 cs[i].reply.events[k].new.live, .int .u64 cs[i].reply.events[k].seq] 74 (.loc 9) ∧ True) (fun _ => [(3, .pointer (some ⟨rb, 0, none⟩)), (5, .slice Ak cs.length ck), (6, .int .i64 (i : Int)), (7, .pointer (some ⟨b7, 0, none⟩)), (8, .int .i64 (k : Int)), (9, .pointer (some ⟨b9, 0, none⟩)), (10, .bool (wAt cs cs[i] cs[i].reply.events[k] (j + 1))), (11, .int .i64 (j : Int))]) ?_ ?_
        · refine WC.block <| WC.dr (fun w => w = t13.drew.w) (.blk (.then_ (.then_ (.blk (.then_ (.blk (.then_ (.then_ (.blk (.blk (.then_ (.then_ (.blk (.then_ .body)))))))))))))) (rfl) ?_
          have hR := IsRun.step hR (TW.drew_step _) (by first | exact fun _ h => h.elim | (rintro _ rfl; exact id)) id
          obtain ⟨hb7, hb9, he, hk⟩ := Q4 (hb7.n (TW.drew_step _)) (hb9.n (TW.drew_step _)) (he.n (TW.drew_step _)) (hk.n (TW.drew_step _))
          refine DL.m 0 rfl rfl <| DL.m 1 rfl rfl ?_
          refine DL.pin 62 rfl (fun hp62 => ?_) (fun hp62 => ?_)
          · refine DL.sx 2 rfl <| DL.sx 3 rfl <| DL.sx 4 rfl <| DL.sx 5 rfl <| DL.sx 6 rfl <| DL.sx 7 rfl <| DL.sx 8 rfl <| DL.sx 9 rfl <| DL.sx 10 rfl <| DL.sx 11 rfl ?_
            refine DL.sx 12 rfl <| DL.sx 13 rfl <| DL.sx 14 rfl <| DL.sx 15 rfl <| DL.sx 16 rfl <| DL.sx 17 rfl <| DL.sx 18 rfl <| DL.sx 19 rfl <| DL.sx 20 rfl <| DL.sx 21 rfl ?_
            refine DL.sx 22 rfl <| DL.sx 23 rfl <| DL.sx 24 rfl <| DL.sx 25 rfl <| DL.sx 26 rfl <| DL.sx 27 rfl <| DL.sx 28 rfl <| DL.sx 29 rfl <| DL.sx 30 rfl <| DL.sx 31 rfl ?_
            refine DL.sx 32 rfl <| DL.sx 33 rfl <| DL.sx 34 rfl <| DL.sx 35 rfl <| DL.sx 36 rfl <| DL.sx 37 rfl <| DL.sx 38 rfl <| DL.sx 39 rfl <| DL.sx 40 rfl <| DL.sx 41 rfl ?_
            refine DL.sx 42 rfl <| DL.sx 43 rfl <| DL.sx 44 rfl <| DL.sx 45 rfl <| DL.sx 46 rfl <| DL.sx 47 rfl <| DL.fx 48 rfl (Fr.pkT rfl rfl) <| DL.fx 49 rfl (Fr.as rfl) <| DL.D <| WQ.bn ?_
            exact WQ.join () ⟨rfl, rfl, rfl, rfl, rfl, rfl, by rw [show (wAt cs cs[i] cs[i].reply.events[k] (j + 1)) = true by first | (simp [hsucc, wJ, notE hcond19, dcT (notE hcond27), dcT hcond35, dcT hcond47, dcT hcond58, hp62]; done) | (exfalso; have z0 := notE hcond19; have z1 := dcT (notE hcond27); have z2 := dcT hcond35; have z3 := dcT hcond47; have z4 := dcT hcond58; have z5 := hp62; omega)]; rfl, rfl, trivial⟩ ⟨hR, hk, he, hb7, hb9, trivial⟩
          refine DL.m 2 rfl rfl <| DL.m 3 rfl rfl ?_
          obtain ⟨bj, oj, cj, dj, eqj, hcj, ⟨uj, vj, ej, rfl, _, _, _⟩, hAj, _, _⟩ := hk.at_ (List.getElem?_eq_getElem hjc)
          obtain ⟨hAkj, _, _⟩ := Value.slice.inj eqj
          refine DL.fx 4 rfl (Fr.ix (congrArg (fun A => some (Value.slice A cs.length ck)) hAkj) rfl sl35 (by omega) (by omega) (o' := oj + j * 18) (by simp)) <| DL.fx 5 rfl (Fr.fa rfl fa61_0 (o' := oj + j * 18 + 0)) <| DL.fx 7 rfl (Fr.q 0 rfl fa61_0) <| DL.hx 6 rfl (fun w hw => by subst hw; exact Rd.ld rfl sc3 (hAj 0 _ rfl)) <| DL.rx 8 rfl (Rd.ld rfl sc3 (hb7.cell rfl)) <| DL.fx 9 rfl (Fr.bo rfl rfl BO.eq) <| DL.m 10 rfl rfl ?_
          refine DL.pin 71 rfl (fun hp71 => ?_) (fun hp71 => ?_)
          · refine DL.m 11 rfl rfl <| DL.m 12 rfl rfl <| DL.fx 13 rfl (Fr.ix (congrArg (fun A => some (Value.slice A cs.length ck)) hAkj) rfl sl35 (by omega) (by omega) (o' := oj + j * 18) (by simp)) <| DL.fx 14 rfl (Fr.fa rfl fa61_2 (o' := oj + j * 18 + 2)) <| DL.fx 15 rfl (Fr.fa rfl fa56_0 (o' := oj + j * 18 + 2)) <| DL.rx 16 rfl (Rd.ld rfl sc3 (hAj 2 _ rfl)) <| DL.fx 17 rfl (Fr.bo rfl rfl BO.eq) <| DL.fx 18 rfl (Fr.pkT rfl rfl) <| DL.m 19 rfl rfl ?_
            refine DL.pin 80 rfl (fun hp80 => ?_) (fun hp80 => ?_)
            · refine DL.m 20 rfl rfl <| DL.m 21 rfl rfl <| DL.fx 22 rfl (Fr.ix (congrArg (fun A => some (Value.slice A cs.length ck)) hAkj) rfl sl35 (by omega) (by omega) (o' := oj + j * 18) (by simp)) <| DL.fx 23 rfl (Fr.fa rfl fa61_2 (o' := oj + j * 18 + 2)) <| DL.fx 24 rfl (Fr.fa rfl fa56_1 (o' := oj + j * 18 + 3)) <| DL.fx 26 rfl (Fr.q 0 rfl fa74_0) <| DL.hx 25 rfl (fun w hw => by subst hw; exact Rd.ld rfl sc9 (hAj 3 _ rfl)) <| DL.rx 27 rfl (Rd.ld rfl sc9 (hb9.cell rfl)) <| DL.fx 28 rfl (Fr.bo rfl rfl BO.seq) <| DL.fx 29 rfl (Fr.pkT rfl rfl) ?_
              refine DL.m 30 rfl rfl ?_
              refine DL.pin 91 rfl (fun hp91 => ?_) (fun hp91 => ?_)
              · refine DL.m 31 rfl rfl <| DL.m 32 rfl rfl <| DL.fx 33 rfl (Fr.ix (congrArg (fun A => some (Value.slice A cs.length ck)) hAkj) rfl sl35 (by omega) (by omega) (o' := oj + j * 18) (by simp)) <| DL.fx 34 rfl (Fr.fa rfl fa61_6 (o' := oj + j * 18 + 12)) <| DL.rx 35 rfl (Rd.ld rfl sc3 (hAj 12 _ rfl)) <| DL.fx 36 rfl (Fr.bo rfl rfl BO.ge) <| DL.fx 37 rfl (Fr.pkT rfl rfl) <| DL.m 38 rfl rfl ?_
                refine DL.pin 99 rfl (fun hp99 => ?_) (fun hp99 => ?_)
                · refine DL.m 39 rfl rfl <| DL.m 40 rfl rfl <| DL.fx 41 rfl (Fr.ix (congrArg (fun A => some (Value.slice A cs.length ck)) hAkj) rfl sl35 (by omega) (by omega) (o' := oj + j * 18) (by simp)) <| DL.fx 42 rfl (Fr.fa rfl fa61_6 (o' := oj + j * 18 + 12)) <| DL.fx 44 rfl (Fr.q 12 rfl fa61_6) <| DL.hx 43 rfl (fun w hw => by subst hw; exact Rd.ld rfl sc3 (hAj 12 _ rfl)) <| DL.rx 45 rfl (Rd.ld rfl sc3 (hb7.cell rfl)) <| DL.fx 46 rfl (Fr.bo rfl rfl BO.lt) <| DL.fx 47 rfl (Fr.pkT rfl rfl) <| DL.fx 48 rfl (Fr.pkF rfl rfl) ?_
                  exact DL.fx 49 rfl (Fr.as rfl) <| DL.D <| WQ.bn <| WQ.join () ⟨rfl, rfl, rfl, rfl, rfl, rfl, by rw [show (wAt cs cs[i] cs[i].reply.events[k] (j + 1)) = (decide ((cs[j].placed) < (cs[i].placed))) by first | (simp [hsucc, wJ, dcT hcond47, dcT hcond58, hp62, dcT hp71, dcT hp80, dcT hp91, dcT hp99]; done) | (exfalso; have z0 := dcT hcond58; have z1 := hp62; have z2 := dcT hp71; have z3 := dcT hp80; have z4 := dcT hp91; have z5 := dcT hp99; omega)]; rfl, rfl, trivial⟩ ⟨hR, hk, he, hb7, hb9, trivial⟩
                refine DL.sx 39 rfl <| DL.sx 40 rfl <| DL.sx 41 rfl <| DL.sx 42 rfl <| DL.sx 43 rfl <| DL.sx 44 rfl <| DL.sx 45 rfl <| DL.sx 46 rfl <| DL.fx 47 rfl (Fr.pkF rfl rfl) <| DL.fx 48 rfl (Fr.pkF rfl rfl) ?_
                exact DL.fx 49 rfl (Fr.as rfl) <| DL.D <| WQ.bn <| WQ.join () ⟨rfl, rfl, rfl, rfl, rfl, rfl, by rw [show (wAt cs cs[i] cs[i].reply.events[k] (j + 1)) = false by first | (simp [hsucc, wJ, dcT hcond47, dcT hcond58, hp62, dcT hp71, dcT hp80, dcT hp91, dcF hp99]; done) | (exfalso; have z0 := dcT hcond58; have z1 := hp62; have z2 := dcT hp71; have z3 := dcT hp80; have z4 := dcT hp91; have z5 := dcF hp99; omega)]; rfl, rfl, trivial⟩ ⟨hR, hk, he, hb7, hb9, trivial⟩
              refine DL.sx 31 rfl <| DL.sx 32 rfl <| DL.sx 33 rfl <| DL.sx 34 rfl <| DL.sx 35 rfl <| DL.sx 36 rfl <| DL.fx 37 rfl (Fr.pkF rfl rfl) <| DL.m 38 rfl rfl <| DL.sx 39 rfl <| DL.sx 40 rfl ?_
              refine DL.sx 41 rfl <| DL.sx 42 rfl <| DL.sx 43 rfl <| DL.sx 44 rfl <| DL.sx 45 rfl <| DL.sx 46 rfl <| DL.fx 47 rfl (Fr.pkF rfl rfl) <| DL.fx 48 rfl (Fr.pkF rfl rfl) <| DL.fx 49 rfl (Fr.as rfl) <| DL.D ?_
              exact WQ.bn <| WQ.join () ⟨rfl, rfl, rfl, rfl, rfl, rfl, by rw [show (wAt cs cs[i] cs[i].reply.events[k] (j + 1)) = false by first | (simp [hsucc, wJ, dcT hcond35, dcT hcond47, dcT hcond58, hp62, dcT hp71, dcT hp80, dcF hp91]; done) | (exfalso; have z0 := dcT hcond47; have z1 := dcT hcond58; have z2 := hp62; have z3 := dcT hp71; have z4 := dcT hp80; have z5 := dcF hp91; omega)]; rfl, rfl, trivial⟩ ⟨hR, hk, he, hb7, hb9, trivial⟩
            refine DL.sx 20 rfl <| DL.sx 21 rfl <| DL.sx 22 rfl <| DL.sx 23 rfl <| DL.sx 24 rfl <| DL.sx 25 rfl <| DL.sx 26 rfl <| DL.sx 27 rfl <| DL.sx 28 rfl <| DL.fx 29 rfl (Fr.pkF rfl rfl) ?_
            refine DL.m 30 rfl rfl <| DL.sx 31 rfl <| DL.sx 32 rfl <| DL.sx 33 rfl <| DL.sx 34 rfl <| DL.sx 35 rfl <| DL.sx 36 rfl <| DL.fx 37 rfl (Fr.pkF rfl rfl) <| DL.m 38 rfl rfl <| DL.sx 39 rfl ?_
            refine DL.sx 40 rfl <| DL.sx 41 rfl <| DL.sx 42 rfl <| DL.sx 43 rfl <| DL.sx 44 rfl <| DL.sx 45 rfl <| DL.sx 46 rfl <| DL.fx 47 rfl (Fr.pkF rfl rfl) <| DL.fx 48 rfl (Fr.pkF rfl rfl) <| DL.fx 49 rfl (Fr.as rfl) ?_
            exact DL.D <| WQ.bn <| WQ.join () ⟨rfl, rfl, rfl, rfl, rfl, rfl, by rw [show (wAt cs cs[i] cs[i].reply.events[k] (j + 1)) = false by first | (simp [hsucc, wJ, dcT (notE hcond27), dcT hcond35, dcT hcond47, dcT hcond58, hp62, dcT hp71, dcF hp80]; done) | (exfalso; have z0 := dcT hcond35; have z1 := dcT hcond47; have z2 := dcT hcond58; have z3 := hp62; have z4 := dcT hp71; have z5 := dcF hp80; omega)]; rfl, rfl, trivial⟩ ⟨hR, hk, he, hb7, hb9, trivial⟩
          refine DL.sx 11 rfl <| DL.sx 12 rfl <| DL.sx 13 rfl <| DL.sx 14 rfl <| DL.sx 15 rfl <| DL.sx 16 rfl <| DL.sx 17 rfl <| DL.fx 18 rfl (Fr.pkF rfl rfl) <| DL.m 19 rfl rfl <| DL.sx 20 rfl ?_
          refine DL.sx 21 rfl <| DL.sx 22 rfl <| DL.sx 23 rfl <| DL.sx 24 rfl <| DL.sx 25 rfl <| DL.sx 26 rfl <| DL.sx 27 rfl <| DL.sx 28 rfl <| DL.fx 29 rfl (Fr.pkF rfl rfl) <| DL.m 30 rfl rfl ?_
          refine DL.sx 31 rfl <| DL.sx 32 rfl <| DL.sx 33 rfl <| DL.sx 34 rfl <| DL.sx 35 rfl <| DL.sx 36 rfl <| DL.fx 37 rfl (Fr.pkF rfl rfl) <| DL.m 38 rfl rfl <| DL.sx 39 rfl <| DL.sx 40 rfl ?_
          refine DL.sx 41 rfl <| DL.sx 42 rfl <| DL.sx 43 rfl <| DL.sx 44 rfl <| DL.sx 45 rfl <| DL.sx 46 rfl <| DL.fx 47 rfl (Fr.pkF rfl rfl) <| DL.fx 48 rfl (Fr.pkF rfl rfl) <| DL.fx 49 rfl (Fr.as rfl) <| DL.D ?_
          exact WQ.bn <| WQ.join () ⟨rfl, rfl, rfl, rfl, rfl, rfl, by rw [show (wAt cs cs[i] cs[i].reply.events[k] (j + 1)) = false by first | (simp [hsucc, wJ, notE hcond19, dcT (notE hcond27), dcT hcond35, dcT hcond47, dcT hcond58, hp62, dcF hp71]; done) | (exfalso; have z0 := dcT (notE hcond27); have z1 := dcT hcond35; have z2 := dcT hcond47; have z3 := dcT hcond58; have z4 := hp62; have z5 := dcF hp71; omega)]; rfl, rfl, trivial⟩ ⟨hR, hk, he, hb7, hb9, trivial⟩
        rintro _ t14 ⟨hR, hk, he, hb7, hb9, _⟩
        exact WC.rg <| WL.m rfl <| WL.f (Fr.bo rfl rfl (BO.add (by omega) (by omega))) <| WL.a rfl <| WL.nil <| WQ.again (j + 1) ⟨rfl, rfl, rfl, rfl, rfl, rfl, rfl, rfl, trivial⟩ ⟨hR, hk, he, hb7, hb9, hjt, trivial⟩ (by omega)
      have hge3 : j = i := by have := dcF hcond58; omega
      refine WC.exit <| WQ.tx <| WQ.tx <| WQ.bx <| WQ.n <| WC.seq ?_
      refine WC.seqJ (σ := Unit) (fun _ t' => IsRun t' rb (runPlay s fp s.picks.length) ∧ Sl t' kCall (.slice Ak cs.length ck) cs ∧ Sl t' kEvent (.slice Ae cs[i].reply.events.length ce) cs[i].reply.events ∧ Bk t' b7 [.int .i64 cs[i].who, .int .i64 cs[i].nth, .int .i64 cs[i].op.kind, .string cs[i].op.user, .int .i64 cs[i].op.id, .int .i64 cs[i].op.status, .int .i64 cs[i].op.prio, .int .u64 cs[i].op.ttl, .slice Au cs[i].op.users.length cu, .int .i64 cs[i].stripe, .int .u64 cs[i].by_, .int .i64 cs[i].began, .int .i64 cs[i].placed, .int .i64 cs[i].ended, .int .i64 cs[i].reply.err, .slice Av cs[i].reply.values.length cw, .slice Ae cs[i].reply.events.length ce, .bool cs[i].reply.lost] 61 (.loc 7) ∧ Bk t' b9 [.string cs[i].reply.events[k].user, .int .i64 cs[i].reply.events[k].old.status, .int .i64 cs[i].reply.events[k].old.prio, .int .i64 cs[i].reply.events[k].old.live, .int .i64 cs[i].reply.events[k].new.status, .int .i64 cs[i].reply.events[k].new.prio, .int .i64 cs[i].reply.events[k].new.live, .int .u64 cs[i].reply.events[k].seq] 74 (.loc 9) ∧ True) (fun _ => [(3, .pointer (some ⟨rb, 0, none⟩)), (5, .slice Ak cs.length ck), (6, .int .i64 (i : Int)), (7, .pointer (some ⟨b7, 0, none⟩)), (8, .int .i64 (k : Int)), (9, .pointer (some ⟨b9, 0, none⟩)), (10, .bool (wAt cs cs[i] cs[i].reply.events[k] j)), (137, .bool (wBad (wAt cs cs[i] cs[i].reply.events[k] j) cs[i].reply.events[k] (runPlay s fp s.picks.length).h.time.seq cs[i]))]) ?_ ?_
      · refine WC.dr (fun w => At w b9 1 [.int .i64 cs[i].reply.events[k].old.status, .int .i64 cs[i].reply.events[k].old.prio, .int .i64 cs[i].reply.events[k].old.live] ∧ At w b9 7 [.int .u64 cs[i].reply.events[k].seq] ∧ True) (.then_ (.then_ (.blk (.then_ (.then_ (.blk (.blk (.then_ (.then_ (.blk (.then_ .body))))))))))) (⟨hb9.at rfl, hb9.at rfl, trivial⟩) ?_
        have hR := IsRun.step hR (TW.drew_step _) (by first | exact fun _ h => h.elim | (rintro _ rfl; exact id)) id
        obtain ⟨hb7, hb9, he, hk⟩ := Q4 (hb7.n (TW.drew_step _)) (hb9.n (TW.drew_step _)) (he.n (TW.drew_step _)) (hk.n (TW.drew_step _))
        refine DL.m 0 rfl rfl <| DL.fx 1 rfl (Fr.un_not rfl) <| DL.m 2 rfl rfl ?_
        refine DL.pin 112 rfl (fun hp112 => ?_) (fun hp112 => ?_)
        · refine DL.sx 3 rfl <| DL.sx 4 rfl <| DL.sx 5 rfl <| DL.sx 6 rfl <| DL.sx 7 rfl <| DL.fx 8 rfl (Fr.pkT rfl rfl) <| DL.m 9 rfl rfl <| DL.sx 10 rfl <| DL.sx 11 rfl <| DL.sx 12 rfl ?_
          refine DL.fx 13 rfl (Fr.pkT rfl rfl) <| DL.m 14 rfl rfl <| DL.sx 15 rfl <| DL.sx 16 rfl <| DL.sx 17 rfl <| DL.sx 18 rfl <| DL.sx 19 rfl <| DL.sx 20 rfl <| DL.fx 21 rfl (Fr.pkT rfl rfl) <| DL.m 22 rfl rfl ?_
          exact DL.sx 23 rfl <| DL.sx 24 rfl <| DL.sx 25 rfl <| DL.sx 26 rfl <| DL.fx 27 rfl (Fr.pkT rfl rfl) <| DL.D <| WQ.join () ⟨rfl, rfl, rfl, rfl, rfl, rfl, rfl, by rw [show (wBad (wAt cs cs[i] cs[i].reply.events[k] j) cs[i].reply.events[k] (runPlay s fp s.picks.length).h.time.seq cs[i]) = true by first | (simp [wBad, notE hcond19, dcT (notE hcond27), dcT hcond35, dcT hcond47, dcF hcond58, notE hp112]; done) | (exfalso; have z0 := notE hcond19; have z1 := dcT (notE hcond27); have z2 := dcT hcond35; have z3 := dcT hcond47; have z4 := dcF hcond58; have z5 := notE hp112; omega)]; rfl, trivial⟩ ⟨hR, hk, he, hb7, hb9, trivial⟩
        refine DL.fx 3 rfl (Fr.q 1 rfl fa74_1) <| DL.fx 5 rfl (Fr.q 4 rfl fa74_2) <| DL.hx 4 rfl (fun w hw => Rd.la rfl ag72 hw.1) <| DL.rx 6 rfl (Rd.la rfl ag72 (hb9.at (vs := [.int .i64 cs[i].reply.events[k].new.status, .int .i64 cs[i].reply.events[k].new.prio, .int .i64 cs[i].reply.events[k].new.live]) rfl)) <| DL.fx 7 rfl (Fr.eqP rfl rfl) <| DL.fx 8 rfl (Fr.pkF rfl rfl) <| DL.m 9 rfl rfl ?_
        refine DL.pin 119 rfl (fun hp119 => ?_) (fun hp119 => ?_)
        · refine DL.sx 10 rfl <| DL.sx 11 rfl <| DL.sx 12 rfl <| DL.fx 13 rfl (Fr.pkT rfl rfl) <| DL.m 14 rfl rfl <| DL.sx 15 rfl <| DL.sx 16 rfl <| DL.sx 17 rfl <| DL.sx 18 rfl <| DL.sx 19 rfl ?_
          exact DL.sx 20 rfl <| DL.fx 21 rfl (Fr.pkT rfl rfl) <| DL.m 22 rfl rfl <| DL.sx 23 rfl <| DL.sx 24 rfl <| DL.sx 25 rfl <| DL.sx 26 rfl <| DL.fx 27 rfl (Fr.pkT rfl rfl) <| DL.D <| WQ.join () ⟨rfl, rfl, rfl, rfl, rfl, rfl, rfl, by rw [show (wBad (wAt cs cs[i] cs[i].reply.events[k] j) cs[i].reply.events[k] (runPlay s fp s.picks.length).h.time.seq cs[i]) = true by first | (simp [wBad, notE hcond19, dcT (notE hcond27), dcT hcond35, dcT hcond47, dcF hcond58, notE hp112, dcT hp119]; done) | (exfalso; have z0 := dcT (notE hcond27); have z1 := dcT hcond35; have z2 := dcT hcond47; have z3 := dcF hcond58; have z4 := notE hp112; have z5 := dcT hp119; omega)]; rfl, trivial⟩ ⟨hR, hk, he, hb7, hb9, trivial⟩
        refine DL.fx 10 rfl (Fr.q 7 rfl fa74_3) <| DL.rx 11 rfl (Rd.ld rfl sc22 (hb9.cell rfl)) <| DL.fx 12 rfl (Fr.bo rfl rfl BO.lt) <| DL.fx 13 rfl (Fr.pkF rfl rfl) <| DL.m 14 rfl rfl ?_
        refine DL.pin 124 rfl (fun hp124 => ?_) (fun hp124 => ?_)
        · refine DL.sx 15 rfl <| DL.sx 16 rfl <| DL.sx 17 rfl <| DL.sx 18 rfl <| DL.sx 19 rfl <| DL.sx 20 rfl <| DL.fx 21 rfl (Fr.pkT rfl rfl) <| DL.m 22 rfl rfl <| DL.sx 23 rfl <| DL.sx 24 rfl ?_
          exact DL.sx 25 rfl <| DL.sx 26 rfl <| DL.fx 27 rfl (Fr.pkT rfl rfl) <| DL.D <| WQ.join () ⟨rfl, rfl, rfl, rfl, rfl, rfl, rfl, by rw [show (wBad (wAt cs cs[i] cs[i].reply.events[k] j) cs[i].reply.events[k] (runPlay s fp s.picks.length).h.time.seq cs[i]) = true by first | (simp [wBad, dcT (notE hcond27), dcT hcond35, dcT hcond47, dcF hcond58, notE hp112, dcF hp119, dcT hp124]; done) | (exfalso; have z0 := dcT hcond35; have z1 := dcT hcond47; have z2 := dcF hcond58; have z3 := notE hp112; have z4 := dcF hp119; have z5 := dcT hp124; omega)]; rfl, trivial⟩ ⟨hR, hk, he, hb7, hb9, trivial⟩
        refine DL.fx 15 rfl (Fr.q 7 rfl fa74_3) <| DL.m 17 rfl rfl <| DL.hx 16 rfl (fun w hw => Rd.ld rfl sc22 (hw.2.1.one rfl)) <| DL.ex 18 rfl (Ef.call rfl en19 (run_Now _ hR) (fun _ h => h.elim)) (fun _ _ ⟨s, _⟩ => ⟨hb9.a s, hb9.a s, trivial⟩) ?_
        rintro _ t15 ⟨s15, rfl⟩
        have hR := IsRun.step hR s15 (by first | exact fun _ h => h.elim | (rintro _ rfl; exact id)) id
        obtain ⟨hb7, hb9, he, hk⟩ := Q4 (hb7.n s15) (hb9.n s15) (he.n s15) (hk.n s15)
        refine DL.fx 19 rfl (Fr.fd1 rfl Tryz.underlying42 rfl sc22 rfl) <| DL.fx 20 rfl (Fr.bo rfl rfl BO.gt) <| DL.fx 21 rfl (Fr.pkF rfl rfl) <| DL.m 22 rfl rfl ?_
        refine DL.pin 132 rfl (fun hp132 => ?_) (fun hp132 => ?_)
        · exact DL.sx 23 rfl <| DL.sx 24 rfl <| DL.sx 25 rfl <| DL.sx 26 rfl <| DL.fx 27 rfl (Fr.pkT rfl rfl) <| DL.D <| WQ.join () ⟨rfl, rfl, rfl, rfl, rfl, rfl, rfl, by rw [show (wBad (wAt cs cs[i] cs[i].reply.events[k] j) cs[i].reply.events[k] (runPlay s fp s.picks.length).h.time.seq cs[i]) = true by first | (simp [wBad, dcT hcond35, dcT hcond47, dcF hcond58, notE hp112, dcF hp119, dcF hp124, dcT hp132]; done) | (exfalso; have z0 := dcT hcond47; have z1 := dcF hcond58; have z2 := notE hp112; have z3 := dcF hp119; have z4 := dcF hp124; have z5 := dcT hp132; omega)]; rfl, trivial⟩ ⟨hR, hk, he, hb7, hb9, trivial⟩
        exact DL.fx 23 rfl (Fr.q 2 rfl fa61_2) <| DL.fx 24 rfl (Fr.q 2 rfl fa56_0) <| DL.rx 25 rfl (Rd.ld rfl sc3 (hb7.cell rfl)) <| DL.fx 26 rfl (Fr.bo rfl rfl BO.ne) <| DL.fx 27 rfl (Fr.pkF rfl rfl) <| DL.D <| WQ.join () ⟨rfl, rfl, rfl, rfl, rfl, rfl, rfl, by rw [show (wBad (wAt cs cs[i] cs[i].reply.events[k] j) cs[i].reply.events[k] (runPlay s fp s.picks.length).h.time.seq cs[i]) = (!decide ((cs[i].op.kind) = 8)) by first | (simp [wBad, dcT hcond35, dcT hcond47, dcF hcond58, notE hp112, dcF hp119, dcF hp124, dcF hp132]; done) | (exfalso; have z0 := dcT hcond47; have z1 := dcF hcond58; have z2 := notE hp112; have z3 := dcF hp119; have z4 := dcF hp124; have z5 := dcF hp132; omega)]; rfl, trivial⟩ ⟨hR, hk, he, hb7, hb9, trivial⟩
      rintro _ t16 ⟨hR, hk, he, hb7, hb9, _⟩
      refine WC.condS rfl (fun hcond137 => ?_) (fun hcond137 => ?_)
      · refine WC.rs <| WL.a rfl <| WL.go <| WC.ret <| WQ.tr <| WQ.br <| WQ.tr <| WQ.tr <| WQ.br <| WQ.br ?_
        exact WQ.tr <| WQ.tr <| WQ.br <| WQ.tr <| WQ.ret rfl (.tmp rfl .nil) (by rw [hge3] at hcond137; have h := g1.symm.trans hcond137; cases h)
      refine WC.skip <| WQ.n <| WC.rs <| WL.a rfl <| WL.go <| WC.block <| WC.loop (σ := Nat) (fun j t' => IsRun t' rb (runPlay s fp s.picks.length) ∧ Sl t' kCall (.slice Ak cs.length ck) cs ∧ Sl t' kEvent (.slice Ae cs[i].reply.events.length ce) cs[i].reply.events ∧ Bk t' b7 [.int .i64 cs[i].who, .int .i64 cs[i].nth, .int .i64 cs[i].op.kind, .string cs[i].op.user, .int .i64 cs[i].op.id, .int .i64 cs[i].op.status, .int .i64 cs[i].op.prio, .int .u64 cs[i].op.ttl, .slice Au cs[i].op.users.length cu, .int .i64 cs[i].stripe, .int .u64 cs[i].by_, .int .i64 cs[i].began, .int .i64 cs[i].placed, .int .i64 cs[i].ended, .int .i64 cs[i].reply.err, .slice Av cs[i].reply.values.length cw, .slice Ae cs[i].reply.events.length ce, .bool cs[i].reply.lost] 61 (.loc 7) ∧ Bk t' b9 [.string cs[i].reply.events[k].user, .int .i64 cs[i].reply.events[k].old.status, .int .i64 cs[i].reply.events[k].old.prio, .int .i64 cs[i].reply.events[k].old.live, .int .i64 cs[i].reply.events[k].new.status, .int .i64 cs[i].reply.events[k].new.prio, .int .i64 cs[i].reply.events[k].new.live, .int .u64 cs[i].reply.events[k].seq] 74 (.loc 9) ∧ j ≤ k ∧ True) (fun j => [(3, .pointer (some ⟨rb, 0, none⟩)), (5, .slice Ak cs.length ck), (6, .int .i64 (i : Int)), (7, .pointer (some ⟨b7, 0, none⟩)), (8, .int .i64 (k : Int)), (9, .pointer (some ⟨b9, 0, none⟩)), (12, .int .i64 (j : Int))]) (fun j => k - j) 0 ⟨rfl, rfl, rfl, rfl, rfl, rfl, rfl, trivial⟩ ⟨hR, hk, he, hb7, hb9, Nat.zero_le _, trivial⟩ ?_
      rintro j t17 ⟨hR, hk, he, hb7, hb9, hjk, _⟩
      refine WC.seq <| WC.rs <| WL.m rfl <| WL.m rfl <| WL.f (Fr.bo rfl rfl BO.lt) <| WL.go ?_
      refine WC.condS rfl (fun hcond140 => ?_) (fun hcond140 => ?_)
      · have hjt : j < k := by have := dcT hcond140; omega
        refine WC.skip <| WQ.n <| WC.seq <| WC.block ?_
        refine WC.seqJ (σ := Unit) (fun _ t' => IsRun t' rb (runPlay s fp s.picks.length) ∧ Sl t' kCall (.slice Ak cs.length ck) cs ∧ Sl t' kEvent (.slice Ae cs[i].reply.events.length ce) cs[i].reply.events ∧ Bk t' b7 [.int .i64 cs[i].who, .int .i64 cs[i].nth, .int .i64 cs[i].op.kind, .string cs[i].op.user, .int .i64 cs[i].op.id, .int .i64 cs[i].op.status, .int .i64 cs[i].op.prio, .int .u64 cs[i].op.ttl, .slice Au cs[i].op.users.length cu, .int .i64 cs[i].stripe, .int .u64 cs[i].by_, .int .i64 cs[i].began, .int .i64 cs[i].placed, .int .i64 cs[i].ended, .int .i64 cs[i].reply.err, .slice Av cs[i].reply.values.length cw, .slice Ae cs[i].reply.events.length ce, .bool cs[i].reply.lost] 61 (.loc 7) ∧ Bk t' b9 [.string cs[i].reply.events[k].user, .int .i64 cs[i].reply.events[k].old.status, .int .i64 cs[i].reply.events[k].old.prio, .int .i64 cs[i].reply.events[k].old.live, .int .i64 cs[i].reply.events[k].new.status, .int .i64 cs[i].reply.events[k].new.prio, .int .i64 cs[i].reply.events[k].new.live, .int .u64 cs[i].reply.events[k].seq] 74 (.loc 9) ∧ True) (fun _ => [(3, .pointer (some ⟨rb, 0, none⟩)), (5, .slice Ak cs.length ck), (6, .int .i64 (i : Int)), (7, .pointer (some ⟨b7, 0, none⟩)), (8, .int .i64 (k : Int)), (9, .pointer (some ⟨b9, 0, none⟩)), (12, .int .i64 (j : Int)), (176, .bool (wDup cs[i].reply.events[k] cs[i].reply.events[j]))]) ?_ ?_
        · refine WC.dr (fun w => w = t17.drew.w) (.then_ (.blk (.then_ (.then_ (.blk (.blk (.then_ (.then_ (.blk (.blk (.then_ (.then_ (.blk (.then_ .body)))))))))))))) (rfl) ?_
          have hR := IsRun.step hR (TW.drew_step _) (by first | exact fun _ h => h.elim | (rintro _ rfl; exact id)) id
          obtain ⟨hb7, hb9, he, hk⟩ := Q4 (hb7.n (TW.drew_step _)) (hb9.n (TW.drew_step _)) (he.n (TW.drew_step _)) (hk.n (TW.drew_step _))
          refine DL.fx 0 rfl (Fr.q 14 rfl fa61_8) <| DL.fx 1 rfl (Fr.q 16 rfl fa59_2) <| DL.m 3 rfl rfl <| DL.fx 7 rfl (Fr.q 7 rfl fa74_3) <| DL.hx 2 rfl (fun w hw => by subst hw; exact Rd.ld rfl sc48 (hb7.cell rfl)) ?_
          obtain ⟨b4, o4, c4, d4, eq4, hc4, rfl, hAu, hlb4, _⟩ := he.at_ (List.getElem?_eq_getElem (Nat.lt_trans hjt hkt))
          obtain ⟨rfl, rfl⟩ : b3 = b4 ∧ o3 = o4 := by obtain ⟨hq, _, _⟩ := Value.slice.inj (eq3.symm.trans eq4); obtain ⟨q1, q2, _⟩ := Addr.mk.inj (Option.some.inj hq); exact ⟨q1, q2⟩
          refine DL.fx 4 rfl (Fr.ix (congrArg (fun A => some (Value.slice A cs[i].reply.events.length ce)) hAeq) rfl sl48 (by omega) (by omega) (o' := o3 + j * 8) (by simp)) <| DL.fx 5 rfl (Fr.fa rfl fa74_3 (o' := o3 + j * 8 + 7)) <| DL.hx 6 rfl (fun w hw => by subst hw; exact Rd.ld rfl sc22 (hAu 7 _ rfl)) <| DL.rx 8 rfl (Rd.ld rfl sc22 (hb9.cell rfl)) <| DL.fx 9 rfl (Fr.bo rfl rfl BO.gt) <| DL.m 10 rfl rfl ?_
          refine DL.pin 153 rfl (fun hp153 => ?_) (fun hp153 => ?_)
          · refine DL.sx 11 rfl <| DL.sx 12 rfl <| DL.sx 13 rfl <| DL.sx 14 rfl <| DL.sx 15 rfl <| DL.sx 16 rfl <| DL.sx 17 rfl <| DL.sx 18 rfl <| DL.sx 19 rfl <| DL.sx 20 rfl ?_
            refine DL.sx 21 rfl <| DL.sx 22 rfl <| DL.sx 23 rfl <| DL.sx 24 rfl <| DL.sx 25 rfl <| DL.sx 26 rfl <| DL.sx 27 rfl <| DL.sx 28 rfl <| DL.sx 29 rfl <| DL.sx 30 rfl ?_
            exact DL.sx 31 rfl <| DL.sx 32 rfl <| DL.fx 33 rfl (Fr.pkT rfl rfl) <| DL.D <| WQ.join () ⟨rfl, rfl, rfl, rfl, rfl, rfl, rfl, by rw [show (wDup cs[i].reply.events[k] cs[i].reply.events[j]) = true by first | (simp [wDup, dcT (notE hcond27), dcT hcond35, dcT hcond47, dcF hcond58, hcond137, dcT hcond140, dcT hp153]; done) | (exfalso; have z0 := dcT hcond35; have z1 := dcT hcond47; have z2 := dcF hcond58; have z3 := hcond137; have z4 := dcT hcond140; have z5 := dcT hp153; omega)]; rfl, trivial⟩ ⟨hR, hk, he, hb7, hb9, trivial⟩
          refine DL.fx 11 rfl (Fr.q 14 rfl fa61_8) <| DL.fx 12 rfl (Fr.q 16 rfl fa59_2) <| DL.m 14 rfl rfl <| DL.fx 18 rfl (Fr.q 7 rfl fa74_3) <| DL.hx 13 rfl (fun w hw => by subst hw; exact Rd.ld rfl sc48 (hb7.cell rfl)) <| DL.fx 15 rfl (Fr.ix (congrArg (fun A => some (Value.slice A cs[i].reply.events.length ce)) hAeq) rfl sl48 (by omega) (by omega) (o' := o3 + j * 8) (by simp)) <| DL.fx 16 rfl (Fr.fa rfl fa74_3 (o' := o3 + j * 8 + 7)) <| DL.hx 17 rfl (fun w hw => by subst hw; exact Rd.ld rfl sc22 (hAu 7 _ rfl)) <| DL.rx 19 rfl (Rd.ld rfl sc22 (hb9.cell rfl)) <| DL.fx 20 rfl (Fr.bo rfl rfl BO.eq) ?_
          refine DL.m 21 rfl rfl ?_
          refine DL.pin 164 rfl (fun hp164 => ?_) (fun hp164 => ?_)
          · refine DL.fx 22 rfl (Fr.q 14 rfl fa61_8) <| DL.fx 23 rfl (Fr.q 16 rfl fa59_2) <| DL.m 25 rfl rfl <| DL.fx 29 rfl (Fr.q 0 rfl fa74_0) <| DL.hx 24 rfl (fun w hw => by subst hw; exact Rd.ld rfl sc48 (hb7.cell rfl)) <| DL.fx 26 rfl (Fr.ix (congrArg (fun A => some (Value.slice A cs[i].reply.events.length ce)) hAeq) rfl sl48 (by omega) (by omega) (o' := o3 + j * 8) (by simp)) <| DL.fx 27 rfl (Fr.fa rfl fa74_0 (o' := o3 + j * 8 + 0)) <| DL.hx 28 rfl (fun w hw => by subst hw; exact Rd.ld rfl sc9 (hAu 0 _ rfl)) <| DL.rx 30 rfl (Rd.ld rfl sc9 (hb9.cell rfl)) <| DL.fx 31 rfl (Fr.bo rfl rfl BO.seq) ?_
            exact DL.fx 32 rfl (Fr.pkT rfl rfl) <| DL.fx 33 rfl (Fr.pkF rfl rfl) <| DL.D <| WQ.join () ⟨rfl, rfl, rfl, rfl, rfl, rfl, rfl, by rw [show (wDup cs[i].reply.events[k] cs[i].reply.events[j]) = (decide ((cs[i].reply.events[j].user) = (cs[i].reply.events[k].user))) by first | (simp [wDup, dcT hcond35, dcT hcond47, dcF hcond58, hcond137, dcT hcond140, dcF hp153, dcT hp164]; done) | (exfalso; have z0 := dcT hcond47; have z1 := dcF hcond58; have z2 := hcond137; have z3 := dcT hcond140; have z4 := dcF hp153; have z5 := dcT hp164; omega)]; rfl, trivial⟩ ⟨hR, hk, he, hb7, hb9, trivial⟩
          refine DL.sx 22 rfl <| DL.sx 23 rfl <| DL.sx 24 rfl <| DL.sx 25 rfl <| DL.sx 26 rfl <| DL.sx 27 rfl <| DL.sx 28 rfl <| DL.sx 29 rfl <| DL.sx 30 rfl <| DL.sx 31 rfl ?_
          exact DL.fx 32 rfl (Fr.pkF rfl rfl) <| DL.fx 33 rfl (Fr.pkF rfl rfl) <| DL.D <| WQ.join () ⟨rfl, rfl, rfl, rfl, rfl, rfl, rfl, by rw [show (wDup cs[i].reply.events[k] cs[i].reply.events[j]) = false by first | (simp [wDup, dcT hcond35, dcT hcond47, dcF hcond58, hcond137, dcT hcond140, dcF hp153, dcF hp164]; done) | (exfalso; have z0 := dcT hcond47; have z1 := dcF hcond58; have z2 := hcond137; have z3 := dcT hcond140; have z4 := dcF hp153; have z5 := dcF hp164; omega)]; rfl, trivial⟩ ⟨hR, hk, he, hb7, hb9, trivial⟩
        rintro _ t18 ⟨hR, hk, he, hb7, hb9, _⟩
        refine WC.condS rfl (fun hcond176 => ?_) (fun hcond176 => ?_)
        · refine WC.rs <| WL.a rfl <| WL.go <| WC.ret <| WQ.br <| WQ.tr <| WQ.tr <| WQ.br <| WQ.br <| WQ.tr ?_
          exact WQ.tr <| WQ.br <| WQ.br <| WQ.tr <| WQ.tr <| WQ.br <| WQ.tr <| WQ.ret rfl (.tmp rfl .nil) (by have h := (g2 j hjt).symm.trans hcond176; cases h)
        exact WC.skip <| WQ.bn <| WQ.n <| WC.rg <| WL.m rfl <| WL.f (Fr.bo rfl rfl (BO.add (by omega) (by omega))) <| WL.a rfl <| WL.nil <| WQ.again (j + 1) ⟨rfl, rfl, rfl, rfl, rfl, rfl, rfl, trivial⟩ ⟨hR, hk, he, hb7, hb9, hjt, trivial⟩ (by omega)
      refine WC.exit <| WQ.tx <| WQ.tx <| WQ.bx <| WQ.bn <| WQ.n <| WC.rg <| WL.m rfl <| WL.f (Fr.bo rfl rfl (BO.add (by omega) (by omega))) <| WL.a rfl ?_
      exact WL.nil <| WQ.again (k + 1) ⟨rfl, rfl, rfl, rfl, rfl, trivial⟩ ⟨hR, hk, he, hb7, hkt, trivial⟩ (by omega)
    refine WC.exit <| WQ.tx <| WQ.tx <| WQ.bx <| WQ.bn <| WQ.n <| WC.rg <| WL.m rfl <| WL.f (Fr.bo rfl rfl (BO.add (by omega) (by omega))) <| WL.a rfl ?_
    exact WL.nil <| WQ.again (i + 1) ⟨rfl, rfl, rfl, trivial⟩ ⟨hR, hk, hlt, trivial⟩ (by omega)
  have hge : i = cs.length := by have := dcF hcond35; omega
  exact WC.exit <| WQ.tx <| WQ.tx <| WQ.bx <| WQ.n <| WC.rs <| WL.a rfl <| WL.go <| WC.ret <| WQ.ret rfl (.tmp rfl .nil) (rfl)
variable {c : Cfg} {h h' : HallS} {k : Nat} {l l' : List CallS}
def PE (c : Cfg) (h : HallS) (l : List CallS) (i : Nat) : ProcS → Prop
  | .w p => PW c h p
  | .r _ => True
  | .d p => PD c h l i p
theorem PE.other {i : Nat} {x : Opr} {p : ProcS} (hm : PM c i x p) (g : PE c h l i p) {w : Int} (r : HRel w h h') (hne : (i : Int) ≠ w) (hw : ∀ w u, Wd l w u → Wd l' w u) : PE c h' l' i p := by
  cases p with
  | w p => exact PW.other g r (by rw [hm.2.1]; exact hne)
  | r p => trivial
  | d p => exact PD.other g r.sq hw
theorem pe_new (ci : CI c) (hc : h.cfg = c) (i : Nat) (x : Opr) : PE c h l i (newP h i x) := by
  have hs := stripeOf_lo x.user ci.st.1
  unfold newP
  rw [hc]
  split
  · refine ⟨Int.natCast_nonneg _, fun y hy => ?_, fun _ h1 => ?_, fun _ h3 => ?_⟩
    · simp only [wNew] at hy
      split at hy
      · cases hy
      obtain rfl := WAct.wr.inj hy
      show stripeOf x.user c.stripes = (((stripeOf x.user c.stripes).toNat : Nat) : Int)
      omega
    · exact absurd h1 (by show ¬ 1 ≤ 0; decide)
    exact absurd h3 (by show ¬ (0 : Nat) = 3; decide)
  split
  · trivial
  exact pd_new _ _ _ _ _
theorem pw_sw (s : Nat) : PW c h (swBegin s) :=
  ⟨by show (0 : Int) ≤ 8; decide, fun x hx => (by cases hx), fun _ h1 => absurd h1 (by show ¬ 1 ≤ 0; decide), fun _ h3 => absurd h3 (by show ¬ (0 : Nat) = 3; decide)⟩
def CEv (r : RunS) (b : Nat) (x : CallS) (e : Event) : Prop := (e.old ≠ e.new ∧ 1 ≤ e.seq ∧ e.seq ≤ r.h.time.seq) ∧ x.who < 8 ∧ x.op.kind = 8 ∧ ∃ (a : Nat) (y : CallS), a < b ∧ r.calls[a]? = some y ∧ y.who = x.who ∧ y.op.kind = 6 ∧ y.op.user = e.user ∧ 0 ≤ y.placed ∧ y.placed < x.placed
structure WatI (c : Cfg) (r : RunS) : Prop where
  he : HE c r.h r.calls
  sq : 0 ≤ r.h.time.seq ∧ r.h.time.seq ≤ r.n
  ps : ∀ (i : Nat) (d : ClientS) p, r.clients[i]? = some d → d.now = some p → PE c r.h r.calls i p
  sw : PW c r.h r.sw.now
  cs : ∀ (b : Nat) (x : CallS), r.calls[b]? = some x → x.reply.events.Pairwise EPair ∧ ∀ e ∈ x.reply.events, CEv r b x e
theorem wd_app (l : List CallS) (x : CallS) : ∀ w u, Wd l w u → Wd (l ++ [x]) w u := fun w u ⟨y, hy, hr⟩ => ⟨y, List.mem_append_left _ hy, hr⟩
theorem wd_mod {l : List CallS} {j : Nat} {f : CallS → CallS} {x : CallS} (hx : l[j]? = some x) (h1 : (f x).who = x.who) (h2 : (f x).op = x.op) (h3 : x.op.kind = 6 → 0 ≤ x.placed → 0 ≤ (f x).placed) : ∀ w u, Wd l w u → Wd (l.modify j f) w u := fun w u ⟨y, hy, y1, y2, y3, y4⟩ => by
  obtain ⟨m, hm⟩ := mem_at hy
  have hmm := modify_at' (j := j) (f := f) hm
  by_cases e : j = m
  · subst e
    rw [hx] at hm
    obtain rfl := Option.some.inj hm
    rw [if_pos rfl] at hmm
    exact ⟨_, List.mem_of_getElem? hmm, by rw [h1]; exact y1, by rw [h2]; exact y2, by rw [h2]; exact y3, h3 y2 y4⟩
  · rw [if_neg e] at hmm
    exact ⟨y, List.mem_of_getElem? hmm, y1, y2, y3, y4⟩
theorem WatI.app {r r' : RunS} (g : WatI c r) {x : CallS} (hz : x.reply = zReply) (e1 : r'.calls = r.calls ++ [x]) (hh : HE c r'.h r.calls) (hs : r'.h.time.seq = r.h.time.seq) (hn : r.n ≤ r'.n) (hps : ∀ (i : Nat) (d : ClientS) p, r'.clients[i]? = some d → d.now = some p → PE c r'.h r'.calls i p) (hsw : PW c r'.h r'.sw.now) : WatI c r' := by
  refine ⟨?_, ⟨by rw [hs]; exact g.sq.1, by rw [hs]; have := g.sq.2; omega⟩, hps, hsw, fun b y hy => ?_⟩
  · rw [e1]
    exact hh.calls (wd_app _ _)
  rw [e1] at hy
  rcases app_at hy with hy | ⟨_, rfl⟩
  · obtain ⟨c1, c2⟩ := g.cs b y hy
    refine ⟨c1, fun e he => ?_⟩
    obtain ⟨e1', e2, e3, a, z, e4, e5, e6⟩ := c2 e he
    exact ⟨by rw [hs]; exact e1', e2, e3, a, z, e4, by rw [e1]; exact app_old e5, e6⟩
  rw [hz]
  exact ⟨List.Pairwise.nil, fun e he => by cases he⟩
theorem placed_up {i : Nat} {x : Opr} {p : ProcS} (hm : PM c i x p) (h6 : x.kind = 6) (m : MineS) {pos : Int} (h0 : 0 ≤ pos) (hp : 0 ≤ pPlaced p) : 0 ≤ pPlaced (pStep h m pos p).2.2 := by
  cases p with
  | w p => have := hm.1; omega
  | r p => have := hm.1; omega
  | d p =>
    rcases (hdStep_keep h m p pos).2.2.2.2 with e | e
    · show 0 ≤ (hdStep h m p pos).2.2.placed
      rw [e]
      exact hp
    show 0 ≤ (hdStep h m p pos).2.2.placed
    rw [e]
    exact h0
theorem watI_inv : Inv (fun r => StI c r ∧ SeqI r) (fun r => r.n ≤ 10000 → WatI c r) where
  idle r K g hn := by
    have hn' : r.n + 1 ≤ 10000 := hn
    have g := g (by omega)
    exact ⟨g.he, ⟨g.sq.1, by have := g.sq.2; show r.h.time.seq ≤ r.n + 1; omega⟩, g.ps, g.sw, g.cs⟩
  beg r i d K g hd hn ho hN := by
    obtain ⟨K, S⟩ := K
    obtain ⟨e1, e2, e3, e4, e5, e6⟩ := rB_eq r i d
    have g := g hN
    obtain ⟨kk, hH, hR⟩ := K.k
    refine g.app (x := cBeg r ⟨i, d.at_, d.ops.getD d.at_ zOpr, 0, 0, 0, 0, 0, zReply⟩) rfl e1 g.he rfl (Int.le_refl _) (fun j d' p hj hp => ?_) g.sw
    rw [e1]
    rcases set_at hj with ⟨rfl, rfl⟩ | ⟨hne, hj⟩
    · obtain rfl : newP r.h j (d.ops.getD d.at_ zOpr) = p := Option.some.inj hp
      exact pe_new K.ci hH.cfg _ _
    · obtain ⟨_, x, hx, _, _, _, _, hm⟩ := K.cur j d' p hj hp
      have := g.ps j d' p hj hp
      exact this.other hm (HRel.refl (-1) _) (by omega) (wd_app _ _)
  move r i d p K g hd hn hen hN := by
    obtain ⟨K, S⟩ := K
    have hN' : r.n + 1 ≤ 10000 := hN
    have g := g (by omega)
    have n0 := K.n0
    have i8 := K.who8 hd
    obtain ⟨hc0, x, hx, hb, hw, hend, hpl, hm⟩ := K.cur i d p hd hn
    have hbd := K.bd x (List.mem_of_getElem? hx)
    obtain ⟨kk, hH, hR⟩ := K.k
    have hp := (hR.cl d (List.mem_of_getElem? hd)).now p hn
    obtain ⟨hm2, hb2⟩ := pm_step r.h d.mine (n := r.n + 1) hbd.2.2.1 (by omega) hm hb
    obtain ⟨k1, k2, k3, k4, k5, k6⟩ := callAt_ke x r.n (pStep r.h d.mine r.n p).2.2
    have gp := g.ps i d p hd hn
    have key : HE c (pStep r.h d.mine r.n p).1 r.calls ∧ PE c (pStep r.h d.mine r.n p).1 r.calls i (pStep r.h d.mine r.n p).2.2 ∧ HRel (i : Int) r.h (pStep r.h d.mine r.n p).1 ∧ (pStep r.h d.mine r.n p).1.time.seq ≤ r.h.time.seq + 1 := by
      cases p with
      | w p =>
        obtain ⟨a1, a2, a3, a4⟩ := w_wat hH hp g.he gp g.sq.1 (by have := g.sq.2; omega) r.n
        rw [hm.2.1] at a3
        exact ⟨a1, a2, a3, a4⟩
      | r p =>
        obtain ⟨a1, a2⟩ := r_wat (p := p) g.he r.n
        rw [hm.2.1] at a2
        exact ⟨a1, trivial, a2, by show (rStep r.h p r.n).1.time.seq ≤ _; rw [rStep_time]; omega⟩
      | d p =>
        obtain ⟨a1, a2, a3, a4⟩ := d_wat (m := d.mine) hp hm.2.2.1 i8 g.he gp (fun h6 h0 => ⟨x, List.mem_of_getElem? hx, hw, by rw [← hm.2.2.2.2]; exact h6, by rw [← hm.2.2.2.2], by rw [hpl]; exact h0⟩) n0
        exact ⟨a1, a2, a3, by show (hdStep r.h d.mine p r.n).1.time.seq ≤ _; rw [a4]; omega⟩
    obtain ⟨a1, a2, a3, a4⟩ := key
    have wd := wd_mod (f := fun x => callAt x r.n (pStep r.h d.mine r.n p).2.2) hx k1 k2 (fun h6 h0 => by
      show 0 ≤ (callAt x r.n (pStep r.h d.mine r.n p).2.2).placed
      rw [k4]
      exact placed_up hm h6 d.mine n0 (by rw [← hpl]; exact h0))
    have hsq := a3.sq
    have s2 := g.sq
    refine ⟨a1.calls wd, ⟨by show 0 ≤ (pStep r.h d.mine r.n p).1.time.seq; omega, by show (pStep r.h d.mine r.n p).1.time.seq ≤ r.n + 1; omega⟩, fun j d' p' hj hp' => ?_, g.sw.other a3 (by rw [K.sww.1]; omega), fun b y hy => ?_⟩
    · rcases set_at hj with ⟨rfl, rfl⟩ | ⟨hji, hj⟩
      · simp only at hp'
        split at hp'
        · cases hp'
        obtain rfl := Option.some.inj hp'
        have e : (pStep r.h d.mine r.n p).2.2 = (pStep r.h d.mine r.n p).2.2 := rfl
        exact PE.other hm2 a2 (HRel.refl (-1) _) (by omega) wd
      obtain ⟨_, x2, _, _, _, _, _, hm'⟩ := K.cur j d' p' hj hp'
      exact (g.ps j d' p' hj hp').other hm' a3 (by omega) wd
    · obtain ⟨z, hz, rfl⟩ := modify_at hy
      have keepc : ∀ (e : Event), b ≠ d.call.toNat → CEv r b z e → CEv (rInc (rMove r i d p)) b z e := fun e hb' ⟨e1, e2, e3, a, y, e4, e5, e6, e7⟩ => by
        refine ⟨⟨e1.1, e1.2.1, by have := e1.2.2; show e.seq ≤ (pStep r.h d.mine r.n p).1.time.seq; omega⟩, e2, e3, a, y, e4, ?_, e6, e7⟩
        have := modify_at' (j := d.call.toNat) (f := fun x => callAt x r.n (pStep r.h d.mine r.n p).2.2) e5
        rwa [if_neg (fun ej => ?_)] at this
        subst ej
        rw [hx] at e5
        obtain rfl := Option.some.inj e5
        have := S.mx i d hd (by rw [hn]; exact nofun) b z hz (by omega)
        omega
      by_cases e : d.call.toNat = b
      · rw [if_pos e]
        subst e
        rw [hx] at hz
        obtain rfl := Option.some.inj hz
        cases hdn : pDone (pStep r.h d.mine r.n p).2.2 with
        | false =>
          rw [(k5 hdn).2, S.zr x (List.mem_of_getElem? hx) (by omega)]
          exact ⟨List.Pairwise.nil, fun e he => by cases he⟩
        | true =>
          rw [(k6 hdn).2]
          cases p with
          | w p => exact ⟨List.Pairwise.nil, fun e he => by cases he⟩
          | r p =>
            have : (pReply (pStep r.h d.mine r.n (ProcS.r p)).2.2).events = [] := by
              show (rReply (rStep r.h p r.n).2).events = []
              unfold rReply
              split <;> rfl
            rw [this]
            exact ⟨List.Pairwise.nil, fun e he => by cases he⟩
          | d p =>
            have hev : (pReply (pStep r.h d.mine r.n (ProcS.d p)).2.2).events = (hdStep r.h d.mine p r.n).2.2.events := by
              show (hdReply (hdStep r.h d.mine p r.n).2.2).events = _
              unfold hdReply
              rw [if_pos (show hdDone (hdStep r.h d.mine p r.n).2.2 = true from hdn)]
            rw [hev]
            have pd : PD c (hdStep r.h d.mine p r.n).1 r.calls i (hdStep r.h d.mine p r.n).2.2 := a2
            refine ⟨pd.evp, fun e he => ?_⟩
            obtain ⟨c1, y, hy', y1, y2, y3, y4⟩ := pd.ev e he
            obtain ⟨hpo, hp0⟩ := pd.ek (fun e' => by rw [e'] at he; cases he)
            have hop : (hdStep r.h d.mine p r.n).2.2.op = x.op := hm2.2.2.2.2
            rw [hop] at hpo
            have h8 : x.op.kind = 8 := by
              unfold polls at hpo
              simp only [Bool.and_eq_true, decide_eq_true_eq] at hpo
              exact hpo.2
            obtain ⟨a, ha⟩ := mem_at hy'
            have hle := S.mx i d hd (by rw [hn]; exact nofun) a y ha y1
            have hne : a ≠ d.call.toNat := by
              rintro rfl
              rw [hx] at ha
              obtain rfl := Option.some.inj ha
              omega
            have hlt : a < d.call.toNat := by omega
            have hs := (S.sq a d.call.toNat y x ha hx hlt (by omega) (by omega)).1
            refine ⟨⟨c1.1, c1.2.1, c1.2.2⟩, by rw [k1]; omega, by rw [k2]; exact h8, a, y, hlt, ?_, by rw [k1]; omega, y2, y3, y4, ?_⟩
            · have := modify_at' (j := d.call.toNat) (f := fun x => callAt x r.n (pStep r.h d.mine r.n (ProcS.d p)).2.2) ha
              rwa [if_neg (fun e => hne e.symm)] at this
            rw [k4]
            have hpb := hb2.pl
            show y.placed < (hdStep r.h d.mine p r.n).2.2.placed
            rcases hpb with hq | hq
            · have hq : (hdStep r.h d.mine p r.n).2.2.placed = -1 := hq
              omega
            have hq : x.began ≤ (hdStep r.h d.mine p r.n).2.2.placed ∧ _ := hq
            omega
      · rw [if_neg e]
        obtain ⟨c1, c2⟩ := g.cs b z hz
        exact ⟨c1, fun e' he => keepc e' (fun h => e h.symm) (c2 e' he)⟩
  swb r K g hs _ _ hN := by
    obtain ⟨K, S⟩ := K
    have e : rSwBeg r = { rBegan r ⟨8, r.sweeps, zOpr, r.sw.stripe, 0, 0, 0, 0, zReply⟩ with sweep := r.calls.length, sweeps := r.sweeps + 1 } := by
      unfold rSwBeg
      rw [if_pos hs]
    have g := g (by rw [e] at hN; exact hN)
    rw [e]
    refine g.app (x := cBeg r ⟨8, r.sweeps, zOpr, r.sw.stripe, 0, 0, 0, 0, zReply⟩) rfl rfl g.he rfl (Int.le_refl _) (fun j d' p hj hp => ?_) g.sw
    obtain ⟨_, x, hx, _, _, _, _, hm⟩ := K.cur j d' p hj hp
    exact (g.ps j d' p hj hp).other hm (HRel.refl (-1) _) (by omega) (wd_app _ _)
  swm r K g hs hen hN := by
    obtain ⟨K, S⟩ := K
    have n0 := K.n0
    obtain ⟨x, hx, hw, hend, hpw, hpl, hst⟩ := K.swc hs
    obtain ⟨kk, hH, hR⟩ := K.k
    have gen : ∀ (f : CallS → CallS) (r' : RunS), r.n + 1 ≤ 10000 → (∀ y, (f y).who = y.who ∧ (f y).op = y.op ∧ (f y).reply = y.reply) → (0 ≤ x.placed → 0 ≤ (f x).placed) → r'.calls = r.calls.modify r.sweep.toNat f → r'.clients = r.clients → r'.h = (wStep r.h r.sw.now r.n).1 → r'.n = r.n + 1 → (PW c (wStep r.h r.sw.now r.n).1 (wStep r.h r.sw.now r.n).2 → PW c r'.h r'.sw.now) → WatI c r' := fun f r' hN' hf hfp e1 e2 e3 e4 e5 => by
      have g := g (by omega)
      obtain ⟨a1, a2, a3, a4⟩ := w_wat hH hR.sw g.he g.sw g.sq.1 (by have := g.sq.2; omega) r.n
      rw [K.sww.1] at a3
      have wd := wd_mod (f := f) hx (hf x).1 (hf x).2.1 (fun _ => hfp)
      have hsq := a3.sq
      have s2 := g.sq
      refine ⟨by rw [e3, e1]; exact a1.calls wd, by rw [e3, e4]; omega, fun j d' p' hj hp' => ?_, e5 a2, fun b y hy => ?_⟩
      · rw [e2] at hj
        obtain ⟨_, x2, _, _, _, _, _, hm'⟩ := K.cur j d' p' hj hp'
        have := K.who8 hj
        rw [e3, e1]
        exact (g.ps j d' p' hj hp').other hm' a3 (by omega) wd
      rw [e1] at hy
      obtain ⟨z, hz, rfl⟩ := modify_at hy
      obtain ⟨c1, c2⟩ := g.cs b z hz
      by_cases e : r.sweep.toNat = b
      · rw [if_pos e, (hf z).2.2]
        refine ⟨c1, fun e' he => ?_⟩
        subst e
        rw [hx] at hz
        obtain rfl := Option.some.inj hz
        have := (c2 e' he).2.1
        omega
      rw [if_neg e]
      refine ⟨c1, fun e' he => ?_⟩
      obtain ⟨d1, d2, d3, a, y, d4, d5, d6, d7⟩ := c2 e' he
      refine ⟨⟨d1.1, d1.2.1, by rw [e3]; have := d1.2.2; omega⟩, d2, d3, a, y, d4, ?_, d6, d7⟩
      rw [e1]
      have := modify_at' (j := r.sweep.toNat) (f := f) d5
      rwa [if_neg (fun ej => ?_)] at this
      subst ej
      rw [hx] at d5
      obtain rfl := Option.some.inj d5
      omega
    cases hd : wDone (wStep r.h r.sw.now r.n).2 with
    | true =>
      rw [rSwMove_done hd] at hN ⊢
      exact gen (fun x => { x with ended := r.n }) _ hN (fun _ => ⟨rfl, rfl, rfl⟩) (fun h => h) rfl rfl rfl rfl (fun _ => pw_sw _)
    | false =>
      rw [rSwMove_on hd] at hN ⊢
      refine gen (fun x => { x with placed := (wStep r.h r.sw.now r.n).2.placed }) _ hN (fun _ => ⟨rfl, rfl, rfl⟩) (fun h => ?_) rfl rfl rfl rfl (fun h => h)
      show 0 ≤ (wStep r.h r.sw.now r.n).2.placed
      rcases (wStep_keep r.h r.sw.now r.n).2.2.2 with e | e <;> rw [e]
      · rw [← hpl]
        exact h
      · exact n0
  tick r b K g _ _ hN := by
    obtain ⟨K, S⟩ := K
    have hN' : r.n + 1 ≤ 10000 := hN
    have g := g (by omega)
    have rel : HRel 9 r.h (rTick r b).h := HRel.same rfl (fun _ => rfl) (Int.le_refl _)
    refine g.app (x := ⟨9, r.ticks, zOpr, 0, b, r.n, r.n, r.n, zReply⟩) rfl rfl (HE.same g.he rfl (fun _ => rfl) (Int.le_refl _)) rfl (by show r.n ≤ r.n + 1; omega) (fun j d' p hj hp => ?_) (g.sw.other rel (by rw [K.sww.1]; decide))
    obtain ⟨_, x, hx, _, _, _, _, hm⟩ := K.cur j d' p hj hp
    have := K.who8 hj
    exact (g.ps j d' p hj hp).other hm rel (by omega) (wd_app _ _)
theorem watI_new {s : Script} (ci : CI s.cfg) (fp : Nat → Nat) : WatI s.cfg (runNew s fp) := by
  have hst : ∀ i, (hStr (hNew s.cfg fp) i).book = noBook := fun i => by
    unfold hStr
    rw [List.getD_eq_getElem?_getD]
    cases e : (hNew s.cfg fp).strs[i]? with
    | none => rfl
    | some x =>
      have := List.mem_of_getElem? e
      obtain ⟨j, _, rfl⟩ := List.mem_map.1 this
      rfl
  refine ⟨⟨fun i => ⟨List.Pairwise.nil, rfl, fun u => ?_⟩, fun i u hu => ?_, fun i w u hw hf => ?_, fun i w hw e he => (by cases he), fun i w hw => List.Pairwise.nil⟩, ⟨Int.le_refl _, Int.le_refl _⟩, fun j d p hj hp => ?_, pw_sw _, fun b x hx => (by cases hx)⟩
  · have : fMask (feed0 s.cfg) u = 0 := rfl
    show M32 (fMask (feed0 s.cfg) u)
    rw [this]
    exact m32_0
  · have hu : u ∈ (hStr (hNew s.cfg fp) i).book.keys := hu
    rw [hst] at hu
    cases hu
  · have g : FdI (feed0 s.cfg) := ⟨List.Pairwise.nil, rfl, fun u => by
      have : fMask (feed0 s.cfg) u = 0 := rfl
      rw [this]
      exact m32_0⟩
    have hf : fWatching (feed0 s.cfg) (w : Int) u = true := hf
    rw [fWatching_bit g hw] at hf
    have : fMask (feed0 s.cfg) u = 0 := rfl
    rw [this] at hf
    simp at hf
  obtain ⟨l, _, rfl⟩ := List.mem_map.1 (List.mem_of_getElem? hj)
  cases hp
theorem watchLaw {s : Script} (hw : WordsS s) (hs : shortS s 900 = true) (hc : checkS s = 0) (fp : Nat → Nat) : WatchLaw (runPlay s fp s.picks.length).calls (runPlay s fp s.picks.length).h.time.seq := by
  have ci := cI_of (check_right hc).1 hw.e0 hw.e1
  have hl := (shortS_len hs).2.1
  have inv := ((stI_inv ci).and seqI_inv).and watI_inv
  have fin := inv.play hw ⟨⟨stI_new hw ci (check_right hc).2 (short_ops hw hs) fp, seqI_new s fp⟩, fun _ => watI_new ci fp⟩ s.picks.length (Nat.le_refl _)
  have hn := (play_I hw hs hc fp (Nat.le_refl s.picks.length)).n
  have g := fin.2 (by omega)
  have S := fin.1.2
  have K := fin.1.1
  intro i hi j hj
  suffices core : ∀ x, (runPlay s fp s.picks.length).calls[i]? = some x → ∀ hj : j < x.reply.events.length, wBad (wAt (runPlay s fp s.picks.length).calls x x.reply.events[j] i) x.reply.events[j] (runPlay s fp s.picks.length).h.time.seq x = false ∧ ∀ m (hm : m < j), wDup x.reply.events[j] (x.reply.events[m]'(Nat.lt_trans hm hj)) = false from core _ (List.getElem?_eq_getElem hi) hj
  intro x hxi hj
  obtain ⟨c1, c2⟩ := g.cs i x hxi
  obtain ⟨⟨d1, d2, d3⟩, d4, d5, a, y, d6, d7, d8, d9, d10, d11, d12⟩ := c2 _ (List.getElem_mem hj)
  have hwt : wAt (runPlay s fp s.picks.length).calls x x.reply.events[j] i = true := by
    unfold wAt
    refine List.any_eq_true.2 ⟨y, ?_, ?_⟩
    · have : ((runPlay s fp s.picks.length).calls.take i)[a]? = some y := by rw [List.getElem?_take, if_pos d6, d7]
      exact List.mem_of_getElem? this
    unfold wJ
    rw [decide_eq_true d8, decide_eq_true d9, decide_eq_true d10, decide_eq_true d11, decide_eq_true d12]
    rfl
  refine ⟨?_, fun m hm => ?_⟩
  · unfold wBad
    rw [hwt, decide_eq_false d1, decide_eq_false (by omega), decide_eq_false (by omega), decide_eq_true d5]
    rfl
  have hp := List.pairwise_iff_getElem.1 c1 m j (by omega) hj hm
  unfold wDup
  rcases hp with hp | ⟨hp, hu⟩
  · rw [decide_eq_false (by omega), decide_eq_false (show ¬ (x.reply.events[m]'(Nat.lt_trans hm hj)).seq = x.reply.events[j].seq by omega)]
    rfl
  rw [decide_eq_false (by omega), decide_eq_false hu, Bool.and_false]
  rfl
end Go.Proofs.YthilcgjhhhmgoaaGreat.X
namespace Go.Proofs.YthilcgjhhhmgoaaGreat.topWatched
open Go.ChangeShapes Go.WideShapes Go.ChangeAt Go.RowKit X
set_option maxRecDepth 100000 in
theorem lifted (os : Os) (started : os.Started) (H : Type) (enc : TypeId × Value → H) :
    ReturnsInHanded {} Tryz.checked os 6 .any (Rows.topWatchedSpec.pre6 enc Tryz.prog Tryz.f6 Rows.topWatchedRow.domain false) (Rows.topWatchedSpec.post enc Tryz.prog Tryz.f6 false true false false) := by
  refine returnsInHanded_of_change_sized (C := Tryz.checked) own started (by kernel_rfl) Tryz.func6
    (ChangeSpec.witness6 (enc := enc) (C := Tryz.checked) false ⟨#[], #[.agg #[.int .i64 0, .int .i64 0, .int .i64 0, .int .i64 0, .int .i64 0, .int .u64 0, .int .u64 0, .slice none 0 0, .slice none 0 0]], []⟩ 8 (by kernel_rfl) (by kernel_rfl) (by kernel_rfl) (by kernel_rfl)) ?_
  intro W base args ds gs before hval0 hW _ hsz0 _
  have hval : ∀ (j : Nat) t v, Tryz.f6.params[j]? = some t → args[j]? = some v → Value.okWide Tryz.prog W .any base t v := hval0
  have hW' := hW
  obtain ⟨p, q, hA0, hV, rfl, hfz, hnd⟩ := hW
  have hA : DataW.TrodAll enc Tryz.prog W 0 (fun _ => true) true Tryz.f6.params.toList args.toList ds p := hA0
  rw [Tryz.params6] at hA hval
  obtain ⟨v0, vs0, d0, ds0, p0, q0, hargs, rfl, rfl, h0, r0⟩ := trodAll_cons hA
  obtain ⟨rfl, rfl, rfl⟩ := trodAll_nil r0
  obtain rfl : args = #[v0] := by cases args; simp_all
  obtain ⟨rfl, rfl⟩ := trodVars_none hV
  have k0 := h0
  have lt0 : ∀ x ∈ p0, x.block < W.heap.size := by intro x hx; exact hW'.lt x (by simp [hx])
  obtain ⟨cs, rfl, hl⟩ := okWide_agg (hval 0 28 v0 rfl rfl)
  obtain ⟨fuel0, hf0⟩ := h0
  have hf0 : DataW.trod enc P W 0 (fun _ => true) true fuel0 28 cs = some (d0, p0) := by simpa only [Value.cells] using hf0
  obtain ⟨s, cv, pv, rfl, hcl, hpk, w5, w6, wp, wc⟩ := open_script hl hf0
  have hw := words_of w5 w6 wp wc
  clear hA0 hval0 hsz0
  refine Calls.mono (watch_walk (tw0 W) hcl hpk hw good_aS (goodS hw) (fun h1 h2 fp => watchLaw hw h1 h2 fp)) fun e W' hh => ?_
  obtain ⟨v, own', he, hs, hv⟩ := hh
  subst hv
  have bel := below_of hs id
  exact ⟨_, he, _, _, _, [], _, [], hW', trodAll_mk1 (shut_bool Tryz.underlying4 _), (trodAll_cons_mk (Below.trod laidOut read28 types28 k0 bel lt0) trodAll_mk0), rfl, bel.frame _, fun h => by cases h⟩
theorem over : Rows.topWatchedRow.holds Tryz.pinned (OpenSpec.ofChange Rows.topWatchedSpec) :=
  OpenClaim.holds_of_wide 6 Tryz.f6 rfl rfl rfl rfl rfl rfl rfl ⟨rfl, rfl, rfl, rfl, rfl⟩ rfl rfl rfl rfl rfl (by kernel_rfl) Tryz.func6 (by kernel_rfl)
    (of_decide_eq_true (by kernel_rfl)) (by unfold Func.isWrapper; first | (rw [if_pos (by decide +kernel)]; kernel_rfl) | (rw [if_neg (by decide +kernel)]; exact ⟨rfl, rfl⟩))
    (fun os started H enc _ => lifted os started H enc)
end Go.Proofs.YthilcgjhhhmgoaaGreat.topWatched
namespace Go.Proofs.YthilcgjhhhmgoaaGreat
theorem topWatched_holds : Rows.TopWatchedSaid := topWatched.over
end Go.Proofs.YthilcgjhhhmgoaaGreat
