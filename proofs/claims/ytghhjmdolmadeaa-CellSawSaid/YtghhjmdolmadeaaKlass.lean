/- A region that draws its order, all of whose operations keep a condition on the world: it is walked once, in the order of the text, in a world of which that condition alone is known. A tail of it, which no order brings up before the rest, may do whatever it likes: it is walked as a list. -/
import Derived.Deep.QuietTactic
import Derived.BigQuiet
import Derived.StillTail
namespace Go.Proofs.Ytghhjmdolmadeaa.Klass
section
variable {P : Program} {ops : Array Oper} {md : Region.Mode} {C : World → Prop}

/-- The worlds that meet 'Good' are told as F x, x of a type of its own: so that facts on them need no premise. -/
theorem region {id : Nat} {Q : Exit → Act → World → Prop} {a : Act} {w : World} {l : List Oper} (Good : World → Prop) (hm : P.follows .mixedOrders = true) (hB : Region.lexB .any l.toArray = true) (hC : Good w.drew)
    (h : ∀ (T : Type) (_ : Nonempty T) (F : T → World), (∀ x, Good (F x)) → (∀ w', Good w' → ∃ x, w' = F x) → wpQuiet P l.toArray (fun w' => ∃ x, w' = F x) (fun a' => ∀ w', (∃ x, w' = F x) → Q .normal a' w') l a) : (Code.region id l.toArray true).wp P Q a w := by
  refine wp_region_quiet (C := fun w' => ∃ x : Subtype Good, w' = x.val) hm hB ⟨⟨_, hC⟩, rfl⟩ ?_
  have := h (Subtype Good) ⟨⟨_, hC⟩⟩ Subtype.val (fun x => x.2) (fun w' hw' => ⟨⟨w', hw'⟩, rfl⟩)
  simpa using this

/-- The head of a region in whatever order, up to a state of which L is known; nothing of the tail may come up. -/
def Head (P : Program) (md : Region.Mode) (ops : Array Oper) (C : World → Prop) (n : Nat) (L : Array Bool → Act → Prop) : Nat → Array Bool → Act → Prop
  | 0, listed, a => L listed a
  | f + 1, listed, a => Region.ready md ops listed ≠ [] ∧ ∀ i ∈ Region.ready md ops listed, i < n ∧ qOp P ops C i (Head P md ops C n L f (listed.setIfInBounds i true)) a

theorem any_of_head {n g : Nat} {L : Array Bool → Act → Prop} {Q' : Exit → Act → World → Prop} (hL : ∀ listed a w, C w → L listed a → wpAny P md ops Q' g listed a w) :
    ∀ (f : Nat) (listed : Array Bool) (a : Act) (w : World), C w → Head P md ops C n L f listed a → wpAny P md ops Q' (f + g) listed a w
  | 0, listed, a, w, hw, h => by rw [Nat.zero_add]; exact hL _ _ _ hw h
  | f + 1, listed, a, w, hw, h => by
    rw [show f + 1 + g = (f + g) + 1 by omega]
    exact ⟨fun h0 => absurd h0 h.1, fun i hi => wpOp_of_qOp hw (fun a' w' hw' h' => any_of_head hL f _ a' w' hw' h') (h.2 i hi).2⟩

/-- Each operation of the tail waits for the last of the head, or for one of the tail ahead of it. -/
def tailB (md : Region.Mode) (ops : Array Oper) (n : Nat) : Bool :=
  (List.range ops.size).all fun t => decide (t < n) || (List.range t).any fun j => decide (n ≤ j + 1) && Region.waitsFor md ops t j

theorem waits {n : Nat} {listed : Array Bool} (hs : Region.sinkB md ops (n - 1) = true) (ht : tailB md ops n = true) (hn : 0 < n) (inv : HeadInv md ops n listed) {t : Nat} (hnt : n ≤ t) (hr : t ∈ Region.ready md ops listed) :
    ∀ i, i < n → listed.getD i false = true := by
  obtain ⟨_, ot, hot, hall⟩ := mem_ready.1 hr
  have htlt : t < ops.size := (Array.getElem?_eq_some_iff.1 hot).1
  have last : listed.getD (n - 1) false = true := by
    have h1 := List.all_eq_true.1 ht t (List.mem_range.2 htlt)
    simp only [Bool.or_eq_true, decide_eq_true_eq] at h1
    rcases h1 with h1 | h1
    · omega
    · obtain ⟨j, hj, hj2⟩ := List.any_eq_true.1 h1
      simp only [Bool.and_eq_true, decide_eq_true_eq] at hj2
      obtain ⟨o', ho', e, he, hb, hon⟩ := Region.waitsFor_spec hj2.2
      obtain rfl : o' = ot := Option.some.inj (ho'.symm.trans hot)
      have h2 := hall e he hb
      rw [hon] at h2
      by_cases hjn : n ≤ j
      · rw [getD_both (inv.tail j hjn (by have := List.mem_range.1 hj; omega))] at h2
        cases h2
      · rwa [show j = n - 1 by omega] at h2
  have back : ∀ (d i : Nat), n - 1 - i = d → i < n → listed.getD i false = true := by
    intro d
    induction d using Nat.strongRecOn with
    | _ d ih =>
      intro i hd hi
      by_cases hin : i = n - 1
      · rw [hin]; exact last
      · have h1 := List.all_eq_true.1 hs i (List.mem_range.2 (by omega))
        obtain ⟨j, hj, hj2⟩ := List.any_eq_true.1 h1
        simp only [Bool.and_eq_true, decide_eq_true_eq] at hj2
        obtain ⟨oj, hoj, e, he, hb, hon⟩ := Region.waitsFor_spec hj2.2
        have hjn := List.mem_range.1 hj
        have h2 := inv.closed j oj hoj (ih (n - 1 - j) (by omega) j rfl (by omega)) e he hb
        rwa [hon] at h2
  exact fun i hi => back _ i rfl hi

theorem head_first {n i : Nat} {oi : Oper} {v : Value} {L : Array Bool → Act → Prop} (hi : ops[i]? = some oi) (hsel : ∀ (j : Nat) (o : Oper) cs b, ops[j]? = some o → o.op ≠ .select cs b)
    (hs : Region.sinkB md ops (n - 1) = true) (ht : tailB md ops n = true) (hin : i < n) (hdone : ∀ listed a, L listed a → ∀ j ∈ Region.ready md ops listed, n ≤ j) :
    ∀ (f : Nat) (listed : Array Bool) (a : Act), HeadInv md ops n listed →
      (∀ j oj, ops[j]? = some oj → j ≠ i → listed.getD j true = false → (∀ e ∈ oj.after, Region.binds md e = true → e.on ≠ i) → oi.apart ops oj = true) →
      i ∈ Region.ready md ops listed → YieldsIn P ops C oi v a → Head P md ops C n L f (listed.setIfInBounds i true) (a.put oi.dst v) → Head P md ops C n L (f + 1) listed a := by
  intro f
  induction f with
  | zero =>
    intro listed a inv _ hr hy H
    refine ⟨fun h => (by rw [h] at hr; cases hr), fun j hj => ?_⟩
    have hjn : j < n := Nat.lt_of_not_le fun hle => by
      have h1 := waits hs ht (by omega) inv hle hj i hin
      rw [getD_both (mem_ready.1 hr).1] at h1
      cases h1
    refine ⟨hjn, ?_⟩
    by_cases hji : j = i
    · subst hji; exact hy.qOp hi H
    · exact absurd (hdone _ _ H j (ready_mono hj hji)) (by omega)
  | succ f ih =>
    intro listed a inv hfree hr hy H
    have hun := (mem_ready.1 hr).1
    refine ⟨fun h => (by rw [h] at hr; cases hr), fun j hj => ?_⟩
    have hjn : j < n := Nat.lt_of_not_le fun hle => by
      have h1 := waits hs ht (by omega) inv hle hj i hin
      rw [getD_both hun] at h1
      cases h1
    refine ⟨hjn, ?_⟩
    by_cases hji : j = i
    · subst hji; exact hy.qOp hi H
    · have h1 := (H.2 j (ready_mono hj hji)).2
      obtain ⟨hjun, oj, hoj, hall⟩ := mem_ready.1 hj
      have hnot : ∀ e ∈ oj.after, Region.binds md e = true → e.on ≠ i := fun e he hb heq => by
        have h1 := hall e he hb
        rw [heq, getD_both hun] at h1
        cases h1
      have h2 := qOp_put hoj (hfree j oj hoj hji hjun hnot) (fun cs b => hsel i oi cs b hi) (fun cs b => hsel j oj cs b hoj) hy h1
      refine qOp_mono (fun a' h3 => ih (listed.setIfInBounds j true) a' (inv.set hj hjn) (fun k ok hk hki hlk hno => hfree k ok hk hki ?_ hno) (ready_mono hr (Ne.symm hji)) h3.1 ?_) h2
      · by_cases hjk : j = k
        · subst hjk; exact hjun
        · rw [getD_set_ne true hjk] at hlk; exact hlk
      · rw [Array.setIfInBounds_comm _ _ hji]
        exact h3.2

/-- The head's operations may be taken first in the order of the text; behind them X is what has come up. -/
def lexTo (md : Region.Mode) (ops : Array Oper) (X : Array Bool) : Nat → Nat → Array Bool → Bool
  | 0, _, listed => decide (listed = X)
  | f + 1, k, listed => (Region.ready md ops listed).contains k && Region.free md ops listed k && lexTo md ops X f (k + 1) (listed.setIfInBounds k true)

theorem head_lex {n : Nat} {X : Array Bool} {Lq : Act → Prop} (hsel : Region.noSelect ops = true) (hs : Region.sinkB md ops (n - 1) = true) (ht : tailB md ops n = true) (hX : ∀ j ∈ Region.ready md ops X, n ≤ j) :
    ∀ (l : List Oper) (k : Nat) (listed : Array Bool) (a : Act), (∀ j, j < l.length → l[j]? = ops[k + j]?) → k + l.length = n → HeadInv md ops n listed →
    lexTo md ops X l.length k listed = true → wpQuiet P ops C Lq l a → Head P md ops C n (fun listed' a' => listed' = X ∧ Lq a') l.length listed a
  | [], k, listed, a, _, hk, _, hB, h => ⟨by simpa [lexTo] using hB, h⟩
  | o :: l, k, listed, a, hl, hk, inv, hB, h => by
    have h0 : ops[k]? = some o := by simpa using (hl 0 (by simp)).symm
    simp only [List.length_cons, lexTo, Bool.and_eq_true] at hB
    obtain ⟨⟨hr, hf⟩, hB'⟩ := hB
    have hkn : k < n := by simp only [List.length_cons] at hk; omega
    have hr' : k ∈ Region.ready md ops listed := by simpa using hr
    have hst : qOp P ops C k (wpQuiet P ops C Lq l) a := by unfold qOp; simp only [h0]; exact h
    obtain ⟨v, hy, hK⟩ := yieldsIn_of_qOp h0 hst
    exact head_first h0 (Region.noSelect_spec hsel) hs ht hkn (L := fun listed' a' => listed' = X ∧ Lq a') (fun listed' a' hL j hj => hX j (hL.1 ▸ hj)) l.length listed a inv (Region.free_spec h0 hf) hr' hy
      (head_lex hsel hs ht hX l (k + 1) _ _ (fun j hj => by have := hl (j + 1) (by simp; omega); simpa [Nat.add_assoc, Nat.add_comm 1 j] using this) (by simp only [List.length_cons] at hk; omega) (inv.set hr' hkn) hB' hK)

/-- The closed facts on a region of which the first n operations are a head, X being what has come up behind it. -/
def splitB (md : Region.Mode) (ops : Array Oper) (n : Nat) (X : Array Bool) : Bool :=
  Region.noSelect ops && decide (n < ops.size) && Region.sinkB md ops (n - 1) && tailB md ops n && (Region.ready md ops X).all (fun j => decide (n ≤ j)) && lexTo md ops X n 0 (Array.replicate ops.size false)

/-- The first n operations in whatever order, in worlds that are 'Good'; the others behind them, in whatever order. -/
theorem head {id : Nat} {Q : Exit → Act → World → Prop} {a : Act} {w : World} {l : List Oper} (n : Nat) (X : Array Bool) (Good : World → Prop) (hm : P.follows .mixedOrders = true) (hB : splitB .any l.toArray n X = true) (hC : Good w.drew)
    (h : ∀ (T : Type) (_ : Nonempty T) (F : T → World), (∀ x, Good (F x)) → (∀ w', Good w' → ∃ x, w' = F x) → wpQuiet P l.toArray (fun w' => ∃ x, w' = F x) (fun a' => ∀ w', (∃ x, w' = F x) → wpAny P .any l.toArray Q (l.length - n) X a' w') (l.take n) a) : (Code.region id l.toArray true).wp P Q a w := by
  simp only [splitB, Bool.and_eq_true, decide_eq_true_eq] at hB
  obtain ⟨⟨⟨⟨⟨hsel, hn⟩, hs⟩, ht⟩, hX⟩, hlex⟩ := hB
  have hn' : n < l.length := by simpa using hn
  have htl : (l.take n).length = n := by simp; omega
  have inv0 : HeadInv .any l.toArray n (Array.replicate l.toArray.size false) :=
    ⟨by simp, fun j oj _ hl => (by rw [getD_replicate_false] at hl; cases hl), fun t _ ht => getD_in (by simpa using ht) (getD_replicate_false _ _)⟩
  have H := head_lex (md := .any) (X := X) hsel hs ht (fun j hj => by simpa using List.all_eq_true.1 hX j hj) (l.take n) 0 _ a (fun j hj => by
    have hj' : j < n := by rw [htl] at hj; exact hj
    simp [hj']) (by simpa using htl) inv0 (by rw [htl]; exact hlex) (h (Subtype Good) ⟨⟨_, hC⟩⟩ Subtype.val (fun x => x.2) (fun w' hw' => ⟨⟨w', hw'⟩, rfl⟩))
  refine wp_region_any hm ?_
  have := any_of_head (Q' := Q) (g := l.length - n) (fun listed a' w' hw' hL => by
    obtain ⟨rfl, hL⟩ := hL
    exact hL _ hw') _ _ _ w.drew ⟨⟨_, hC⟩, rfl⟩ H
  rw [htl, show n + (l.length - n) = l.toArray.size by simp; omega] at this
  exact this

/-- One operation of the tail that looks at no world is taken first. -/
theorem take {Q : Exit → Act → World → Prop} {i : Nat} {oi : Oper} {v : Value} {fuel : Nat} {listed : Array Bool} {a : Act} {w : World} (hi : ops[i]? = some oi) (hs : Region.noSelect ops = true) (hf : Region.free md ops listed i = true) (hr : (Region.ready md ops listed).contains i = true)
    (hQ : ∀ c a w, Q (.panic c) (a.put oi.dst v) w → Q (.panic c) a w) (hw : Region.wanted oi (yielded ops a.tmps) = true) (hy : ∀ w, (execOp a.eval oi).run P w = .ok (.value v) w)
    (h : wpAny P md ops Q fuel (listed.setIfInBounds i true) (a.put oi.dst v) w) : wpAny P md ops Q (fuel + 1) listed a w :=
  wpAny_take hi hs hf hr hQ (.inl ⟨hw, hy⟩) h

/-- What is left comes up in one order: as a list. -/
theorem rest {Q : Exit → Act → World → Prop} {l : List Oper} (k g : Nat) {listed : Array Bool} {a : Act} {w : World} (hg : (l.drop k).length = g) (hB : Region.seqB md l.toArray g k listed = true) (h : wpList P l.toArray Q (l.drop k) a w) : wpAny P md l.toArray Q g listed a w := by
  subst hg
  exact wpAny_of_seq (l.drop k) k listed a w (fun j => by simp [List.getElem?_drop]) hB h
end
end Go.Proofs.Ytghhjmdolmadeaa.Klass
