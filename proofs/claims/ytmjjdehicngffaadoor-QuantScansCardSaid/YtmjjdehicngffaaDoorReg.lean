/- A region that draws its order, in a class of worlds that every operation of its head keeps (loads, sums, calls by their contracts): one walk in the order of the text. Plain lemmas, no condition. -/
import Derived.Test.YtmjjdehicngffaaDoorBase
import Derived.StillTail
import Derived.Laws.Rows
namespace Go.Proofs.YtmjjdehicngffaaDoor
open Go.RowKit

section
variable {P : Program} {ops : Array Oper} {md : Region.Mode} {C : World → Prop}

/-- What an operation comes to: its slot gets v, and a world of the class is left. -/
def kUpon (P : Program) (C : World → Prop) (d : Option Tmp) (v : Value) : Result Next → Prop
  | .ok (.value u) w' => (d = none ∨ u = v) ∧ C w'
  | .ok .skip w' => (d = none ∨ undef = v) ∧ C w'
  | .ok (.enter f args) w' => Calls P f args w' fun e w'' => ∃ u, e = .returned u ∧ (d = none ∨ u = v) ∧ C w''
  | .ok (.row row args) w' => Rows P row args w' fun u w'' => (d = none ∨ u = v) ∧ C w''
  | _ => False
/-- In state a, in every world of the class. -/
def Kp (P : Program) (ops : Array Oper) (C : World → Prop) (o : Oper) (v : Value) (a : Act) : Prop :=
  (Region.wanted o (yielded ops a.tmps) = true ∧ ∀ w, C w → kUpon P C o.dst v ((execOp a.eval o).run P w)) ∨ (Region.wanted o (yielded ops a.tmps) = false ∧ undef = v)
theorem put_or {a : Act} {d : Option Tmp} {u v : Value} (h : d = none ∨ u = v) : a.put d u = a.put d v := by
  rcases h with rfl | rfl <;> rfl
theorem Kp.of_same {o : Oper} {v : Value} {a a' : Act} (hy : Kp P ops C o v a) (he : execOp a'.eval o = execOp a.eval o) (hw : Region.wanted o (yielded ops a'.tmps) = Region.wanted o (yielded ops a.tmps)) : Kp P ops C o v a' := by
  unfold Kp at *; rw [he, hw]; exact hy
theorem Kp.wpOp {i : Nat} {o : Oper} {v : Value} {a : Act} {w : World} {K : Act → World → Prop} {Q : Exit → Act → World → Prop} (hi : ops[i]? = some o) (hy : Kp P ops C o v a) (hw : C w) (h : ∀ w', C w' → K (a.put o.dst v) w') : wpOp P ops Q i K a w := by
  unfold Go.wpOp
  simp only [hi]
  rcases hy with ⟨hwa, hv⟩ | ⟨hwa, rfl⟩
  · simp only [hwa, if_true]
    refine .inl ?_
    have := hv w hw
    unfold Oper.wp
    generalize (execOp a.eval o).run P w = r at *
    cases r with
    | ok n w' =>
      cases n <;> simp only [kUpon] at this <;> simp only [Oper.upon]
      case value u => rw [put_or this.1]; exact h _ this.2
      case skip => rw [put_or this.1]; exact h _ this.2
      case enter f args => exact this.mono fun e w'' ⟨u, he, hu, hc⟩ => by subst he; show K _ _; rw [put_or hu]; exact h _ hc
      case row row args => exact this.mono fun u w'' ⟨hu, hc⟩ => by rw [put_or hu]; exact h _ hc
    | halt x w' => simp only [kUpon] at this
  · simp only [hwa, Bool.false_eq_true, if_false]; exact h _ hw

/-- The walk in the order of the text. -/
def wpK (P : Program) (ops : Array Oper) (C : World → Prop) (Q : Act → Prop) : List Oper → Act → Prop
  | [], a => Q a
  | o :: rest, a => ∃ v, Kp P ops C o v a ∧ wpK P ops C Q rest (a.put o.dst v)
/-- f operations of the head are still to come, in whatever order; L behind them. -/
def headK (P : Program) (md : Region.Mode) (ops : Array Oper) (C : World → Prop) (n : Nat) (L : Array Bool → Act → Prop) : Nat → Array Bool → Act → Prop
  | 0, listed, a => L listed a
  | f + 1, listed, a => Region.ready md ops listed ≠ [] ∧ ∀ i ∈ Region.ready md ops listed, i < n ∧ ∃ o v, ops[i]? = some o ∧ Kp P ops C o v a ∧ headK P md ops C n L f (listed.setIfInBounds i true) (a.put o.dst v)
theorem any_of_headK {n g : Nat} {L : Array Bool → Act → Prop} {Q : Exit → Act → World → Prop} (hL : ∀ listed a w, C w → L listed a → wpAny P md ops Q g listed a w) :
    ∀ (f : Nat) (listed : Array Bool) (a : Act) (w : World), C w → headK P md ops C n L f listed a → wpAny P md ops Q (f + g) listed a w
  | 0, listed, a, w, hw, h => by rw [Nat.zero_add]; exact hL _ _ _ hw h
  | f + 1, listed, a, w, hw, h => by
    rw [Nat.succ_add]
    refine ⟨fun h0 => absurd h0 h.1, fun i hi => ?_⟩
    obtain ⟨_, o, v, ho, hy, hk⟩ := h.2 i hi
    exact hy.wpOp ho hw fun w' hw' => any_of_headK hL f _ _ w' hw' hk
/-- An operation that may come up now may be taken first. -/
theorem headK_first {n i : Nat} {oi : Oper} {v : Value} {L : Array Bool → Act → Prop} (hi : ops[i]? = some oi) (hsel : Region.noSelect ops = true)
    (hin : i < n) (htail : ∀ listed, HeadInv md ops n listed → listed.getD i true = false → ∀ t, n ≤ t → t ∉ Region.ready md ops listed)
    (hdone : ∀ listed a, L listed a → ∀ j ∈ Region.ready md ops listed, n ≤ j) :
    ∀ (f : Nat) (listed : Array Bool) (a : Act), HeadInv md ops n listed →
      (∀ j oj, ops[j]? = some oj → j ≠ i → listed.getD j true = false → (∀ e ∈ oj.after, Region.binds md e = true → e.on ≠ i) → oi.apart ops oj = true) →
      i ∈ Region.ready md ops listed → Kp P ops C oi v a →
      headK P md ops C n L f (listed.setIfInBounds i true) (a.put oi.dst v) → headK P md ops C n L (f + 1) listed a := by
  intro f
  induction f with
  | zero =>
    intro listed a inv _ hr hy H
    have hun := (mem_ready.1 hr).1
    refine ⟨List.ne_nil_of_mem hr, fun j hj => ?_⟩
    have hjn : j < n := Nat.lt_of_not_le fun h => htail listed inv hun j h hj
    refine ⟨hjn, ?_⟩
    by_cases hji : j = i
    · subst hji; exact ⟨oi, v, hi, hy, H⟩
    · exact absurd (hdone _ _ H j (ready_mono hj hji)) (by omega)
  | succ f ih =>
    intro listed a inv hfree hr hy H
    have hun := (mem_ready.1 hr).1
    refine ⟨List.ne_nil_of_mem hr, fun j hj => ?_⟩
    have hjn : j < n := Nat.lt_of_not_le fun h => htail listed inv hun j h hj
    refine ⟨hjn, ?_⟩
    by_cases hji : j = i
    · subst hji; exact ⟨oi, v, hi, hy, H⟩
    · obtain ⟨_, oj, u, hoj, hyj, hk⟩ := H.2 j (ready_mono hj hji)
      obtain ⟨hjun, oj', hoj', hall⟩ := mem_ready.1 hj
      obtain rfl : oj' = oj := Option.some.inj (hoj'.symm.trans hoj)
      have hap := hfree j oj' hoj hji hjun fun e he hb heq => by
        have h1 := hall e he hb
        rw [heq, getD_both hun] at h1
        cases h1
      obtain ⟨h1, h2, h3⟩ := Oper.apart_spec hap
      refine ⟨oj', u, hoj, hyj.of_same (execOp_put oj' (fun cs b => Region.noSelect_spec hsel j oj' cs b hoj) a oi.dst v h1).symm (wanted_put oj' a oi.dst v h1).symm, ?_⟩
      refine ih (listed.setIfInBounds j true) (a.put oj'.dst u) (inv.set hj hjn) (fun k ok hk' hki hun' hno => hfree k ok hk' hki ?_ hno) (ready_mono hr (Ne.symm hji))
        (hy.of_same (execOp_put oi (fun cs b => Region.noSelect_spec hsel i oi cs b hi) a oj'.dst u h3) (wanted_put oi a oj'.dst u h3)) ?_
      · by_cases hjk : j = k
        · subst hjk; exact hjun
        · rw [getD_set_ne true hjk] at hun'; exact hun'
      · rw [Array.setIfInBounds_comm _ _ hji, ← Act.put_comm a v u h2]
        exact hk
theorem headK_lex {n g : Nat} {Lq : Act → Prop} (hsel : Region.noSelect ops = true) (htail : ∀ i, i < n → ∀ listed, HeadInv md ops n listed → listed.getD i true = false → ∀ t, n ≤ t → t ∉ Region.ready md ops listed) :
    ∀ (l : List Oper) (k : Nat) (listed : Array Bool) (a : Act), (∀ j, j < l.length → l[j]? = ops[k + j]?) → k + l.length = n → HeadInv md ops n listed →
    Region.lexHead md ops g l.length k listed = true → wpK P ops C Lq l a →
    headK P md ops C n (fun listed' a' => Region.seqB md ops g n listed' = true ∧ Lq a') l.length listed a
  | [], k, listed, a, _, hk, _, hB, h => by
    obtain rfl : k = n := by simpa using hk
    exact ⟨hB, h⟩
  | o :: l, k, listed, a, hl, hk, inv, hB, h => by
    have h0 : ops[k]? = some o := by simpa using (hl 0 (by simp)).symm
    simp only [List.length_cons, Region.lexHead, Bool.and_eq_true] at hB
    simp only [List.length_cons] at hk
    obtain ⟨⟨hr, hf⟩, hB'⟩ := hB
    have hr' : k ∈ Region.ready md ops listed := by simpa using hr
    obtain ⟨v, hy, hK⟩ := h
    refine headK_first h0 hsel (by omega) (htail k (by omega)) (fun listed' a' hL => seqB_ready hL.1) l.length listed a inv (Region.free_spec h0 hf) hr' hy
      (headK_lex hsel htail l (k + 1) _ _ (fun j hj => ?_) (by omega) (inv.set hr' (by omega)) hB' hK)
    have := hl (j + 1) (by simp; omega)
    simpa [Nat.add_assoc, Nat.add_comm 1 j] using this
/-- The region's beginning: its first n operations keep the class; the rest is walked as it stands, from every world of the class. -/
theorem rgnT {id : Nat} {Q : Exit → Act → World → Prop} {a : Act} {w : World} {l : List Oper} (C : World → Prop) (n : Nat) (hm : P.follows .mixedOrders = true) (hB : Region.lexTailB .any l.toArray n = true) (hC : C w.drew)
    (h : wpK P l.toArray C (fun a' => ∀ w', C w' → wpList P l.toArray Q (l.drop n) a' w') (l.take n) a) : (Code.region id l.toArray true).wp P Q a w := by
  simp only [Region.lexTailB, Bool.and_eq_true, decide_eq_true_eq] at hB
  obtain ⟨⟨⟨⟨hsel, hn⟩, hs⟩, hc⟩, hlex⟩ := hB
  have hn' : n < l.length := by simpa using hn
  have htl : (l.take n).length = n := by simp; omega
  have hdl : (l.drop n).length = l.toArray.size - n := by simp
  have inv0 : HeadInv .any l.toArray n (Array.replicate l.toArray.size false) :=
    ⟨by simp, fun j oj _ hl => (by rw [getD_replicate_false] at hl; cases hl), fun t _ ht => getD_in (by simpa using ht) (getD_replicate_false _ _)⟩
  have H := headK_lex (md := .any) (g := l.toArray.size - n) hsel (fun i hi listed inv hun => tail_waits hs hc hn inv _ i rfl hi hun) (l.take n) 0 _ a (fun j hj => by
    have hj' : j < n := by rw [htl] at hj; exact hj
    simp [hj']) (by simpa using htl) inv0 (by rw [htl]; exact hlex) h
  refine wp_region_any hm ?_
  have := any_of_headK (Q := Q) (g := l.toArray.size - n) (fun listed a' w' hw' hL => by
    have := wpAny_of_seq (md := .any) (Q' := Q) (l.drop n) n listed a' w' (fun j => by simp [List.getElem?_drop]) (by rw [hdl]; exact hL.1) (hL.2 w' hw')
    rwa [hdl] at this) _ _ _ _ hC H
  rw [htl, show n + (l.toArray.size - n) = l.toArray.size by omega] at this
  exact this
theorem lexHead_of_from : ∀ (f k : Nat) (listed : Array Bool), Region.lexFrom md ops f k listed = true → Region.lexHead md ops 0 f k listed = true
  | 0, _, _, h => h
  | f + 1, k, _, h => by
    simp only [Region.lexFrom, Region.lexHead, Bool.and_eq_true] at h ⊢
    exact ⟨h.1, lexHead_of_from f (k + 1) _ h.2⟩
/-- The same without a tail: what stands behind the region is asked in every world of the class. -/
theorem rgn {id : Nat} {Q : Exit → Act → World → Prop} {a : Act} {w : World} {l : List Oper} (C : World → Prop) (hm : P.follows .mixedOrders = true) (hB : Region.lexB .any l.toArray = true) (hC : C w.drew)
    (h : wpK P l.toArray C (fun a' => ∀ w', C w' → Q .normal a' w') l a) : (Code.region id l.toArray true).wp P Q a w := by
  simp only [Region.lexB, Bool.and_eq_true] at hB
  obtain ⟨hsel, hlex⟩ := hB
  have inv0 : HeadInv .any l.toArray l.length (Array.replicate l.toArray.size false) :=
    ⟨by simp, fun j oj _ hl => (by rw [getD_replicate_false] at hl; cases hl), fun t ht ht' => by simp at ht'; omega⟩
  have H := headK_lex (md := .any) (g := 0) hsel (fun i hi listed inv hun t ht hr => by
      obtain ⟨_, ot, hot, _⟩ := mem_ready.1 hr
      have := (Array.getElem?_eq_some_iff.1 hot).1
      simp at this; omega) l 0 _ a (fun j _ => by simp) (by simp) inv0 (lexHead_of_from _ _ _ (by simpa using hlex)) h
  refine wp_region_any hm ?_
  have := any_of_headK (Q := Q) (g := 0) (fun listed a' w' hw' hL => ⟨by simpa [Region.seqB] using hL.1, hL.2 w' hw'⟩) _ _ _ _ hC H
  simpa using this
end

section
variable {P : Program} {ops : Array Oper} {C : World → Prop} {Q : Act → Prop} {rest : List Oper} {o : Oper} {a : Act}
/-- Not wanted. -/
theorem qU (hw : Region.wanted o (yielded ops a.tmps) = false) (h : wpK P ops C Q rest (a.put o.dst undef)) : wpK P ops C Q (o :: rest) a := ⟨undef, .inr ⟨hw, rfl⟩, h⟩
/-- One operation, as the walk meets it. -/
theorem qW (v : Value) (hlt : (match o.dst with | some d => decide (d < a.tmps.size) | none => true) = true) (hw : Region.wanted o (yielded ops a.tmps) = true)
    (hv : ∀ w, C w → ∀ K : Act → World → Prop, (∀ w', C w' → K (a.put o.dst v) w') → o.wp P a w K fun _ _ _ => False) (h : wpK P ops C Q rest (a.put o.dst v)) : wpK P ops C Q (o :: rest) a := by
  have hput : ∀ u : Value, a.put o.dst u = a.put o.dst v → o.dst = none ∨ u = v := by
    intro u hu
    cases hd : o.dst with
    | none => exact .inl rfl
    | some d =>
      rw [hd] at hu hlt
      have hlt : d < a.tmps.size := by simpa using hlt
      have : (a.put (some d) u).tmps[d]? = (a.put (some d) v).tmps[d]? := by rw [hu]
      exact .inr (by simpa [Act.put, hlt] using this)
  refine ⟨v, .inl ⟨hw, fun w hC => ?_⟩, h⟩
  have := hv w hC (fun a' w' => a' = a.put o.dst v ∧ C w') (fun w' h => ⟨rfl, h⟩)
  unfold Oper.wp at this
  generalize (execOp a.eval o).run P w = r at *
  cases r with
  | ok n w' =>
    cases n <;> simp only [Oper.upon] at this <;> simp only [kUpon]
    case value u => exact ⟨hput _ this.1, this.2⟩
    case skip => exact ⟨hput _ this.1, this.2⟩
    case enter f args =>
      refine this.mono fun e w'' he => ?_
      cases e with
      | returned u => exact ⟨u, rfl, hput _ he.1, he.2⟩
      | panicked c => exact he.elim
      | outgrown => exact absurd he (by rintro ⟨_, _, h⟩; exact h)
    case row row args => exact this.mono fun u w'' he => ⟨hput _ he.1, he.2⟩
    case defer d =>
      have h1 := congrArg Act.defers this.1
      have h2 : ∀ (b : Act) (x : Value), (b.put o.dst x).defers = b.defers := fun b x => by unfold Act.put; split <;> rfl
      rw [h2, h2] at h1
      exact absurd (congrArg List.length h1) (by simp)
  | halt x w' => cases x <;> simp only [Oper.upon] at this
/-- A whole array or struct out of its block. -/
theorem qR {g : Nat} {ty t : TypeId} {cs : Array Value} {d : TypeDesc} (X : Operand) (hw : Region.wanted o (yielded ops a.tmps) = true) (ho : o.op = .load ty X) (hx : a.eval X = .pointer (some ⟨g, 0, none⟩)) (hc : ∀ w, C w → Blk w g t cs)
    (hu : P.underlying ty = some d) (hd : (match d with | .struct _ | .array _ _ => true | _ => false) = true) (hi : (P.info? ty).map (·.size) = some cs.size)
    (h : wpK P ops C Q rest (a.put o.dst (.agg cs))) : wpK P ops C Q (o :: rest) a := by
  refine ⟨.agg cs, .inl ⟨hw, fun w hC => ?_⟩, h⟩
  unfold execOp
  simp only [ho, hx, Instr.loadAt, Instr.sureAddr, Sem.run_bind, Sem.run_pure, Result.andThen_ok, run_loadVar_row w g t ty cs (0, 0) d (hc w hC) hu hd hi]
  exact ⟨.inr rfl, hC⟩
/-- A call, by its contract. -/
theorem qC {v : Value} {f : FuncId} {args : Array Value} (hc : ∀ w, C w → Calls P f args w fun e w' => e = .returned v ∧ C w') (hw : Region.wanted o (yielded ops a.tmps) = true) (hv : ∀ w, (execOp a.eval o).run P w = .ok (.enter f args) w)
    (h : wpK P ops C Q rest (a.put o.dst v)) : wpK P ops C Q (o :: rest) a :=
  ⟨v, .inl ⟨hw, fun w hC => by rw [hv w]; exact (hc w hC).mono fun e w' ⟨he, hC'⟩ => ⟨v, he, .inr rfl, hC'⟩⟩, h⟩
/-- The region's end. -/
theorem qN (h : Q a) : wpK P ops C Q [] a := h
end

/-- The worlds in which all that was there is as it was. -/
def Cls (w w' : World) : Prop := Only [] w w'
section
variable {w w1 w2 : World}
theorem Cls.refl : Cls w w.drew := (Only.refl [] w).drew
theorem Cls.only (h : Cls w w1) : Only [] w w1 := h
theorem Cls.then (h : Cls w w1) (k : Only [] w1 w2) : Cls w w2 := Only.then h k
theorem Cls.cell {p : Addr} {v : Value} (h : Cls w w1) (hc : w.cell? p = some v) : w1.cell? p = some v := (Only.cell h (World.block_lt_of_cell? _ _ hc) (by simp)).trans hc
theorem Cls.blk {g : Nat} {t : TypeId} {cs : Array Value} (h : Cls w w1) (hb : Blk w g t cs) : Blk w1 g t cs := hb.only h (by simp)
theorem Cls.reads {A : Option Addr} {size n : Nat} {xs : List Value} (h : Cls w w1) (hr : Reads w A size n xs) : Reads w1 A size n xs := hr.then h
/-- A contract, as a region's call asks it. -/
theorem Calls.cls {P : Program} {f : FuncId} {args : Array Value} {v : Value} (h : Cls w w1) (hc : Calls P f args w1 fun e w' => e = .returned v ∧ Only [] w1 w') : Calls P f args w1 fun e w' => e = .returned v ∧ Cls w w' :=
  hc.mono fun _ _ ⟨he, ho⟩ => ⟨he, h.then ho⟩
theorem Calls.cls_same {P : Program} {f : FuncId} {args : Array Value} {v : Value} (h : Cls w w1) (hc : Calls P f args w1 fun e w' => e = .returned v ∧ w1 = w') : Calls P f args w1 fun e w' => e = .returned v ∧ Cls w w' :=
  hc.mono fun _ _ ⟨he, ho⟩ => ⟨he, ho ▸ h⟩
end
end Go.Proofs.YtmjjdehicngffaaDoor
