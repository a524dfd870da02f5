/- A region that draws its order and in whose head new variables are made (of one type): one walk in the order of the text, the new variables' blocks under names. Plain lemmas, no condition. -/
import Derived.Test.YtmjjdehicngffaaDoorReg
import Derived.Test.YtmjjdehicngffaaDoorHeap
namespace Go.Proofs.YtmjjdehicngffaaDoor
open Go.RowKit

section
variable {P : Program} {ops : Array Oper} {md : Region.Mode} {w0 : World} {T : TypeId} {cs : Array Value}
/-- In state a, in every world in which all that was there at the start is as it was: v, and nothing of that world changes. -/
def KpO (P : Program) (ops : Array Oper) (w0 : World) (o : Oper) (v : Value) (a : Act) : Prop :=
  (Region.wanted o (yielded ops a.tmps) = true ∧ ∀ w, Cls w0 w → kUpon P (Only [] w) o.dst v ((execOp a.eval o).run P w)) ∨ (Region.wanted o (yielded ops a.tmps) = false ∧ undef = v)
theorem KpO.of_same {o : Oper} {v : Value} {a a' : Act} (hy : KpO P ops w0 o v a) (he : execOp a'.eval o = execOp a.eval o) (hw : Region.wanted o (yielded ops a'.tmps) = Region.wanted o (yielded ops a.tmps)) : KpO P ops w0 o v a' := by
  unfold KpO at *; rw [he, hw]; exact hy
/-- A new variable of type T. -/
def isAl (T : TypeId) (o : Oper) : Bool := o.guard.isNone && o.dst.isSome && match o.op with | .alloc t => t == T | _ => false
/-- In the walk a new variable's slot is left as it is. -/
def nx (T : TypeId) (o : Oper) (v : Value) (a : Act) : Act := if isAl T o = true then a else a.put o.dst v
def Kx (P : Program) (ops : Array Oper) (w0 : World) (T : TypeId) (o : Oper) (v : Value) (a : Act) : Prop := isAl T o = true ∨ KpO P ops w0 o v a
def wpO (P : Program) (ops : Array Oper) (w0 : World) (T : TypeId) (Q : Act → Prop) : List Oper → Act → Prop
  | [], a => Q a
  | o :: rest, a => ∃ v, Kx P ops w0 T o v a ∧ wpO P ops w0 T Q rest (nx T o v a)
theorem wpO_mono {Q Q' : Act → Prop} (h : ∀ a, Q a → Q' a) : ∀ (l : List Oper) (a : Act), wpO P ops w0 T Q l a → wpO P ops w0 T Q' l a
  | [], _, hh => h _ hh
  | _ :: l, _, ⟨v, hk, hh⟩ => ⟨v, hk, wpO_mono h l _ hh⟩
def headO (P : Program) (md : Region.Mode) (ops : Array Oper) (w0 : World) (T : TypeId) (n : Nat) (L : Array Bool → Act → Prop) : Nat → Array Bool → Act → Prop
  | 0, listed, a => L listed a
  | f + 1, listed, a => Region.ready md ops listed ≠ [] ∧ ∀ i ∈ Region.ready md ops listed, i < n ∧ ∃ o v, ops[i]? = some o ∧ Kx P ops w0 T o v a ∧ headO P md ops w0 T n L f (listed.setIfInBounds i true) (nx T o v a)
theorem nx_comm {x y : Oper} {u v : Value} {a : Act} (h : x.apart ops y = true) : nx T y u (nx T x v a) = nx T x v (nx T y u a) := by
  obtain ⟨_, h2, _⟩ := Oper.apart_spec h
  unfold nx
  split <;> split <;> first | rfl | exact (Act.put_comm a v u h2)
theorem Kx.of_nx {x y : Oper} {u v : Value} {a : Act} (hs : ∀ cs b, y.op ≠ .select cs b) (h : x.apart ops y = true) : Kx P ops w0 T y u (nx T x v a) ↔ Kx P ops w0 T y u a := by
  obtain ⟨h1, _, _⟩ := Oper.apart_spec h
  unfold nx
  split
  · exact Iff.rfl
  · exact ⟨fun k => k.imp id fun k => k.of_same (execOp_put y hs a x.dst v h1).symm (wanted_put y a x.dst v h1).symm, fun k => k.imp id fun k => k.of_same (execOp_put y hs a x.dst v h1) (wanted_put y a x.dst v h1)⟩
theorem apart_symm {x y : Oper} (h : x.apart ops y = true) : y.apart ops x = true := by
  obtain ⟨h1, h2, h3⟩ := Oper.apart_spec h
  unfold Oper.apart
  rw [Bool.and_eq_true]
  constructor
  · cases hd : y.dst with
    | none => rfl
    | some d =>
      have := h3 d hd
      simp only [Bool.and_eq_true, Bool.not_eq_true', bne_iff_ne, ne_eq]
      exact ⟨by simpa using this, fun h => h2 d h hd⟩
  · cases hd : x.dst with
    | none => rfl
    | some d => have := h1 d hd; simpa using this
theorem headO_first {n i : Nat} {oi : Oper} {v : Value} {L : Array Bool → Act → Prop} (hi : ops[i]? = some oi) (hsel : Region.noSelect ops = true)
    (hin : i < n) (htail : ∀ listed, HeadInv md ops n listed → listed.getD i true = false → ∀ t, n ≤ t → t ∉ Region.ready md ops listed)
    (hdone : ∀ listed a, L listed a → ∀ j ∈ Region.ready md ops listed, n ≤ j) :
    ∀ (f : Nat) (listed : Array Bool) (a : Act), HeadInv md ops n listed →
      (∀ j oj, ops[j]? = some oj → j ≠ i → listed.getD j true = false → (∀ e ∈ oj.after, Region.binds md e = true → e.on ≠ i) → oi.apart ops oj = true) →
      i ∈ Region.ready md ops listed → Kx P ops w0 T oi v a →
      headO P md ops w0 T n L f (listed.setIfInBounds i true) (nx T oi v a) → headO P md ops w0 T n L (f + 1) listed a := by
  intro f
  induction f with
  | zero =>
    intro listed a inv _ hr hy H
    have hun := (mem_ready.1 hr).1
    refine ⟨List.ne_nil_of_mem hr, fun j hj => ?_⟩
    have hjn : j < n := Nat.lt_of_not_le fun h => htail listed inv hun j h hj
    refine ⟨hjn, ?_⟩
    by_cases hji : j = i
    · subst hji; exact ⟨oi, v, hi, hy, H⟩
    · exact absurd (hdone _ _ H j (ready_mono hj hji)) (by omega)
  | succ f ih =>
    intro listed a inv hfree hr hy H
    have hun := (mem_ready.1 hr).1
    refine ⟨List.ne_nil_of_mem hr, fun j hj => ?_⟩
    have hjn : j < n := Nat.lt_of_not_le fun h => htail listed inv hun j h hj
    refine ⟨hjn, ?_⟩
    by_cases hji : j = i
    · subst hji; exact ⟨oi, v, hi, hy, H⟩
    · obtain ⟨_, oj, u, hoj, hyj, hk⟩ := H.2 j (ready_mono hj hji)
      obtain ⟨hjun, oj', hoj', hall⟩ := mem_ready.1 hj
      obtain rfl : oj' = oj := Option.some.inj (hoj'.symm.trans hoj)
      have hap := hfree j oj' hoj hji hjun fun e he hb heq => by
        have h1 := hall e he hb
        rw [heq, getD_both hun] at h1
        cases h1
      refine ⟨oj', u, hoj, (Kx.of_nx (fun cs b => Region.noSelect_spec hsel j oj' cs b hoj) hap).1 hyj, ?_⟩
      refine ih (listed.setIfInBounds j true) (nx T oj' u a) (inv.set hj hjn) (fun k ok hk' hki hun' hno => hfree k ok hk' hki ?_ hno) (ready_mono hr (Ne.symm hji))
        ((Kx.of_nx (fun cs b => Region.noSelect_spec hsel i oi cs b hi) (apart_symm hap)).2 hy) ?_
      · by_cases hjk : j = k
        · subst hjk; exact hjun
        · rw [getD_set_ne true hjk] at hun'; exact hun'
      · rw [Array.setIfInBounds_comm _ _ hji, ← nx_comm hap]
        exact hk
theorem headO_lex {n g : Nat} {Lq : Act → Prop} (hsel : Region.noSelect ops = true) (hns : n ≤ ops.size) (htail : ∀ i, i < n → ∀ listed, HeadInv md ops n listed → listed.getD i true = false → ∀ t, n ≤ t → t ∉ Region.ready md ops listed) :
    ∀ (l : List Oper) (k : Nat) (listed : Array Bool) (a : Act), (∀ j, j < l.length → l[j]? = ops[k + j]?) → k + l.length = n → HeadInv md ops n listed → (∀ i, i < k → listed.getD i true = true) →
    Region.lexHead md ops g l.length k listed = true → wpO P ops w0 T Lq l a →
    headO P md ops w0 T n (fun listed' a' => Region.seqB md ops g n listed' = true ∧ (∀ i, i < n → listed'.getD i true = true) ∧ Lq a') l.length listed a
  | [], k, listed, a, _, hk, _, hd, hB, h => by
    obtain rfl : k = n := by simpa using hk
    exact ⟨hB, hd, h⟩
  | o :: l, k, listed, a, hl, hk, inv, hd, hB, h => by
    have h0 : ops[k]? = some o := by simpa using (hl 0 (by simp)).symm
    simp only [List.length_cons, Region.lexHead, Bool.and_eq_true] at hB
    simp only [List.length_cons] at hk
    obtain ⟨⟨hr, hf⟩, hB'⟩ := hB
    have hr' : k ∈ Region.ready md ops listed := by simpa using hr
    obtain ⟨v, hy, hK⟩ := h
    refine headO_first h0 hsel (by omega) (htail k (by omega)) (fun listed' a' hL => seqB_ready hL.1) l.length listed a inv (Region.free_spec h0 hf) hr' hy
      (headO_lex hsel hns htail l (k + 1) _ _ (fun j hj => ?_) (by omega) (inv.set hr' (by omega)) (fun i hi => ?_) hB' hK)
    · have := hl (j + 1) (by simp; omega)
      simpa [Nat.add_assoc, Nat.add_comm 1 j] using this
    · by_cases e : k = i
      · subst e
        have : k < listed.size := by rw [inv.size]; omega
        simp [this]
      · rw [getD_set_ne true e]; exact hd i (by omega)

/-- The new variables made so far: number of the operation, block. -/
def putL (ops : Array Oper) (a : Act) : List (Nat × Nat) → Act
  | [] => a
  | p :: L => (putL ops a L).put ((ops[p.1]?).bind (·.dst)) (.pointer (some ⟨p.2, 0, none⟩))
/-- No operation of the head looks at a new variable's slot, or writes it. -/
def alB (ops : Array Oper) (T : TypeId) (n : Nat) : Bool :=
  (List.range n).all fun i => match ops[i]? with
    | some oi => !isAl T oi || (List.range n).all fun j => i == j || match ops[j]? with | some oj => oi.apart ops oj | none => true
    | none => true
theorem alB_spec {n i j : Nat} {oi oj : Oper} (h : alB ops T n = true) (hi : ops[i]? = some oi) (hj : ops[j]? = some oj) (hin : i < n) (hjn : j < n) (ha : isAl T oi = true) (hne : i ≠ j) : oi.apart ops oj = true := by
  have h1 := List.all_eq_true.1 h i (List.mem_range.2 hin)
  simp only [hi, ha, Bool.not_true, Bool.false_or] at h1
  have h2 := List.all_eq_true.1 h1 j (List.mem_range.2 hjn)
  simpa [hj, hne] using h2
structure InvL (ops : Array Oper) (w0 : World) (T : TypeId) (cs : Array Value) (n : Nat) (L : List (Nat × Nat)) (listed : Array Bool) (w : World) : Prop where
  cls : Cls w0 w
  blk : ∀ p ∈ L, Blk w p.2 T cs ∧ w0.heap.size ≤ p.2
  al : ∀ p ∈ L, p.1 < n ∧ listed.getD p.1 false = true ∧ ∃ o, ops[p.1]? = some o ∧ isAl T o = true
  all : ∀ i o, i < n → ops[i]? = some o → isAl T o = true → listed.getD i false = true → i ∈ L.map (·.1)
  nd1 : (L.map (·.1)).Nodup
  nd2 : (L.map (·.2)).Nodup
theorem putL_put {n : Nat} {L : List (Nat × Nat)} {j : Nat} {oj : Oper} {u : Value} {a : Act} (hB : alB ops T n = true) (hj : ops[j]? = some oj) (hjn : j < n)
    (hL : ∀ p ∈ L, p.1 < n ∧ p.1 ≠ j ∧ ∃ o, ops[p.1]? = some o ∧ isAl T o = true) : (putL ops a L).put oj.dst u = putL ops (a.put oj.dst u) L := by
  induction L with
  | nil => rfl
  | cons p L ih =>
    obtain ⟨h1, h2, o, ho, ha⟩ := hL p (by simp)
    have hap := alB_spec hB ho hj h1 hjn ha h2
    obtain ⟨_, h4, _⟩ := Oper.apart_spec hap
    have ih := ih (fun q hq => hL q (by simp [hq]))
    simp only [putL, ho, Option.bind_some]
    rw [← ih]
    exact (Act.put_comm _ _ _ h4)
theorem KpO_putL {n : Nat} {L : List (Nat × Nat)} {j : Nat} {oj : Oper} {u : Value} {a : Act} (hsel : Region.noSelect ops = true) (hB : alB ops T n = true) (hj : ops[j]? = some oj) (hjn : j < n)
    (hL : ∀ p ∈ L, p.1 < n ∧ p.1 ≠ j ∧ ∃ o, ops[p.1]? = some o ∧ isAl T o = true) (h : KpO P ops w0 oj u a) : KpO P ops w0 oj u (putL ops a L) := by
  induction L with
  | nil => exact h
  | cons p L ih =>
    obtain ⟨h1, h2, o, ho, ha⟩ := hL p (by simp)
    have hap := alB_spec hB ho hj h1 hjn ha h2
    obtain ⟨h3, _, _⟩ := Oper.apart_spec hap
    have ih := ih (fun q hq => hL q (by simp [hq]))
    simp only [putL, ho, Option.bind_some]
    exact ih.of_same (execOp_put oj (fun cs b => Region.noSelect_spec hsel j oj cs b hj) _ o.dst _ h3) (wanted_put oj _ o.dst _ h3)
theorem any_of_headO {n g : Nat} {L : Array Bool → Act → Prop} {Q : Exit → Act → World → Prop} {z : Value} (hsel : Region.noSelect ops = true) (hB : alB ops T n = true) (hz : (P.info? T).map (·.zero) = some (some z)) (hcs : z.cells = cs)
    (hL : ∀ listed a w M, listed.size = ops.size → InvL ops w0 T cs n M listed w → (∀ i, i < n → listed.getD i true = true) → L listed a → wpAny P md ops Q g listed (putL ops a M) w) (hfin : ∀ listed a, L listed a → ∀ i, i < n → listed.getD i true = true) :
    ∀ (f : Nat) (listed : Array Bool) (a : Act) (w : World) (M : List (Nat × Nat)), listed.size = ops.size → InvL ops w0 T cs n M listed w → headO P md ops w0 T n L f listed a → wpAny P md ops Q (f + g) listed (putL ops a M) w
  | 0, listed, a, w, M, hsz, hw, h => by rw [Nat.zero_add]; exact hL _ _ _ _ hsz hw (hfin _ _ h) h
  | f + 1, listed, a, w, M, hsz, inv, h => by
    rw [Nat.succ_add]
    refine ⟨fun h0 => absurd h0 h.1, fun j hj => ?_⟩
    obtain ⟨hjn, o, v, ho, hk, hH⟩ := h.2 j hj
    have hun := (mem_ready.1 hj).1
    have hjs : j < listed.size := by rw [hsz]; exact (Array.getElem?_eq_some_iff.1 ho).1
    have hjM : ∀ p ∈ M, p.1 ≠ j := fun p hp e => by
      have := (inv.al p hp).2.1
      rw [e, getD_both hun] at this; cases this
    have hset : ∀ i, listed.getD i false = true → (listed.setIfInBounds j true).getD i false = true := fun i hi => getD_set_true hi
    have hself : (listed.setIfInBounds j true).getD j false = true := by simp [hjs]
    by_cases ha : isAl T o = true
    · have hdst : ∃ d, o.dst = some d := by
        simp only [isAl, Bool.and_eq_true] at ha
        exact Option.isSome_iff_exists.1 ha.1.2
      have hgd : o.guard = none := by
        simp only [isAl, Bool.and_eq_true] at ha
        simpa using ha.1.1
      have hop : o.op = .alloc T := by
        simp only [isAl, Bool.and_eq_true] at ha
        have := ha.2
        split at this
        · rename_i t ht; rw [ht]; simp at this; rw [this]
        · cases this
      unfold wpOp
      simp only [ho]
      have hwa : Region.wanted o (yielded ops (putL ops a M).tmps) = true := by simp [Region.wanted, hgd]
      rw [if_pos hwa]
      refine .inl ?_
      cases hi : P.info? T with
      | none => simp [hi] at hz
      | some i =>
        have hz' : i.zero = some z := by simpa [hi] using hz
        have hzv : (zeroValue T).run P w = .ok z w := by simp [zeroValue, typeInfo, hi, hz']
        have inv' : InvL ops w0 T cs n ((j, w.heap.size) :: M) (listed.setIfInBounds j true) (w.alloc (.cells cs T)) := by
          refine ⟨inv.cls.then ((Only.refl _ _).alloc _), ?_, ?_, ?_, ?_, ?_⟩
          · intro p hp
            rcases List.mem_cons.1 hp with rfl | hp
            · exact ⟨Blk.new _ _ _, inv.cls.only.size⟩
            · exact ⟨(inv.blk p hp).1.alloc _, (inv.blk p hp).2⟩
          · intro p hp
            rcases List.mem_cons.1 hp with rfl | hp
            · exact ⟨hjn, hself, o, ho, ha⟩
            · obtain ⟨h1, h2, h3⟩ := inv.al p hp
              exact ⟨h1, hset _ h2, h3⟩
          · intro i' o' h1 h2 h3 h4
            by_cases e : i' = j
            · subst e; simp
            · rw [getD_set_ne false (Ne.symm e)] at h4
              exact List.mem_cons_of_mem _ (inv.all i' o' h1 h2 h3 h4)
          · simp only [List.map_cons, List.nodup_cons]
            refine ⟨fun hm => ?_, inv.nd1⟩
            obtain ⟨p, hp, e⟩ := List.mem_map.1 hm
            exact hjM p hp e
          · simp only [List.map_cons, List.nodup_cons]
            refine ⟨fun hm => ?_, inv.nd2⟩
            obtain ⟨p, hp, e⟩ := List.mem_map.1 hm
            have := (inv.blk p hp).1.lt
            omega
        have hnx : nx T o v a = a := by unfold nx; rw [if_pos ha]
        rw [hnx] at hH
        have hrec := any_of_headO hsel hB hz hcs hL hfin f (listed.setIfInBounds j true) a _ ((j, w.heap.size) :: M) (by simp [hsz]) inv' hH
        simp only [putL, ho, Option.bind_some] at hrec
        unfold Oper.wp execOp
        simp only [hop, Instr.alloc, Sem.run_bind, hzv, Result.andThen_ok, newVar, newRow, hcs]
        exact hrec
    · have hk' := hk.resolve_left ha
      have hnx : nx T o v a = a.put o.dst v := by unfold nx; rw [if_neg ha]
      rw [hnx] at hH
      have hLM : ∀ p ∈ M, p.1 < n ∧ p.1 ≠ j ∧ ∃ o, ops[p.1]? = some o ∧ isAl T o = true := fun p hp => ⟨(inv.al p hp).1, hjM p hp, (inv.al p hp).2.2⟩
      have hkp := KpO_putL hsel hB ho hjn hLM hk'
      have hcont : ∀ w', Only [] w w' → wpAny P md ops Q (f + g) (listed.setIfInBounds j true) ((putL ops a M).put o.dst v) w' := by
        intro w' hw'
        rw [putL_put hB ho hjn hLM]
        refine any_of_headO hsel hB hz hcs hL hfin f _ _ w' M (by simp [hsz]) ⟨inv.cls.then hw', fun p hp => ⟨(inv.blk p hp).1.only hw' (by simp), (inv.blk p hp).2⟩, fun p hp => ?_, fun i' o' h1 h2 h3 h4 => ?_, inv.nd1, inv.nd2⟩ hH
        · obtain ⟨h1, h2, h3⟩ := inv.al p hp
          exact ⟨h1, hset _ h2, h3⟩
        · by_cases e : i' = j
          · subst e
            obtain rfl : o' = o := Option.some.inj (h2.symm.trans ho)
            exact absurd h3 ha
          · rw [getD_set_ne false (Ne.symm e)] at h4
            exact inv.all i' o' h1 h2 h3 h4
      unfold wpOp
      simp only [ho]
      rcases hkp with ⟨hwa, hv⟩ | ⟨hwa, rfl⟩
      · simp only [hwa, if_true]
        refine .inl ?_
        have := hv w inv.cls
        unfold Oper.wp
        generalize (execOp (putL ops a M).eval o).run P w = r at *
        cases r with
        | ok nx' w' =>
          cases nx' <;> simp only [kUpon] at this <;> simp only [Oper.upon]
          case value u => rw [put_or this.1]; exact hcont _ this.2
          case skip => rw [put_or this.1]; exact hcont _ this.2
          case enter f' args => exact this.mono fun e w'' ⟨u, he, hu, hc⟩ => by subst he; show wpAny _ _ _ _ _ _ _ _; rw [put_or hu]; exact hcont _ hc
          case row row args => exact this.mono fun u w'' ⟨hu, hc⟩ => by rw [put_or hu]; exact hcont _ hc
        | halt x w' => simp only [kUpon] at this
      · simp only [hwa, Bool.false_eq_true, if_false]; exact hcont _ (Only.refl _ _)
theorem getD_tf {listed : Array Bool} {i : Nat} (h : listed.getD i true = true) (hi : i < listed.size) : listed.getD i false = true := by
  simp [hi] at h ⊢; exact h
theorem InvL.one {n i : Nat} {M : List (Nat × Nat)} {listed : Array Bool} {w : World} (inv : InvL ops w0 T cs n M listed w) (hall : ∀ i, i < n → listed.getD i true = true) (hsz : listed.size = ops.size) (hns : n ≤ ops.size)
    (h : ((List.range n).filter fun j => match ops[j]? with | some o => isAl T o | none => false) = [i]) : ∃ g, M = [(i, g)] := by
  have hmem : ∀ j, (j < n ∧ ∃ o, ops[j]? = some o ∧ isAl T o = true) ↔ j = i := by
    intro j
    have : j ∈ (List.range n).filter (fun j => match ops[j]? with | some o => isAl T o | none => false) ↔ j = i := by rw [h]; simp
    rw [← this, List.mem_filter, List.mem_range]
    constructor
    · rintro ⟨h1, o, ho, ha⟩; exact ⟨h1, by simp [ho, ha]⟩
    · rintro ⟨h1, h2⟩
      split at h2
      · rename_i o ho; exact ⟨h1, o, ho, h2⟩
      · cases h2
  obtain ⟨hin, o, ho, ha⟩ := (hmem i).2 rfl
  have hi : i ∈ M.map (·.1) := inv.all i o hin ho ha (getD_tf (hall i hin) (by omega))
  match M, inv, hi with
  | [(j, g)], inv, _ =>
    obtain ⟨h1, _, h3⟩ := inv.al (j, g) (by simp)
    exact ⟨g, by rw [(hmem j).1 ⟨h1, h3⟩]⟩
  | (j, g) :: (j', g') :: M', inv, _ =>
    obtain ⟨h1, _, h3⟩ := inv.al (j, g) (by simp)
    obtain ⟨h1', _, h3'⟩ := inv.al (j', g') (by simp)
    have e1 := (hmem j).1 ⟨h1, h3⟩
    have e2 := (hmem j').1 ⟨h1', h3'⟩
    have := inv.nd1
    simp [e1, e2] at this
theorem InvL.two {n i i2 : Nat} {M : List (Nat × Nat)} {listed : Array Bool} {w : World} (inv : InvL ops w0 T cs n M listed w) (hall : ∀ i, i < n → listed.getD i true = true) (hsz : listed.size = ops.size) (hns : n ≤ ops.size)
    (h : ((List.range n).filter fun j => match ops[j]? with | some o => isAl T o | none => false) = [i, i2]) : ∃ g g2, M = [(i, g), (i2, g2)] ∨ M = [(i2, g2), (i, g)] := by
  have hmem : ∀ j, (j < n ∧ ∃ o, ops[j]? = some o ∧ isAl T o = true) ↔ (j = i ∨ j = i2) := by
    intro j
    have : j ∈ (List.range n).filter (fun j => match ops[j]? with | some o => isAl T o | none => false) ↔ (j = i ∨ j = i2) := by rw [h]; simp
    rw [← this, List.mem_filter, List.mem_range]
    constructor
    · rintro ⟨h1, o, ho, ha⟩; exact ⟨h1, by simp [ho, ha]⟩
    · rintro ⟨h1, h2⟩
      split at h2
      · rename_i o ho; exact ⟨h1, o, ho, h2⟩
      · cases h2
  have hne : i ≠ i2 := by
    have hn : ((List.range n).filter fun j => match ops[j]? with | some o => isAl T o | none => false).Nodup := List.Nodup.sublist List.filter_sublist List.nodup_range
    rw [h] at hn
    simpa using hn
  have hin : ∀ j, (j = i ∨ j = i2) → j ∈ M.map (·.1) := fun j hj => by
    obtain ⟨hin, o, ho, ha⟩ := (hmem j).2 hj
    exact inv.all j o hin ho ha (getD_tf (hall j hin) (by omega))
  have hi := hin i (.inl rfl)
  have hi2 := hin i2 (.inr rfl)
  have hM : ∀ p ∈ M, p.1 = i ∨ p.1 = i2 := fun p hp => (hmem p.1).1 ⟨(inv.al p hp).1, (inv.al p hp).2.2⟩
  have nd := inv.nd1
  clear inv hin hmem
  match M, hi, hi2, hM, nd with
  | [(j, g)], hi, hi2, _, _ => simp at hi hi2; omega
  | [(j, g), (j', g')], hi, hi2, hM, nd =>
    simp at hi hi2 nd
    rcases hM (j, g) (by simp) with e | e <;> simp only at e <;> subst e
    · obtain rfl : j' = i2 := by rcases hi2 with h | h <;> omega
      exact ⟨g, g', .inl rfl⟩
    · obtain rfl : j' = i := by rcases hi with h | h <;> omega
      exact ⟨g', g, .inr rfl⟩
  | (j, g) :: (j', g') :: (j'', g'') :: M', _, _, hM, nd =>
    have h1 := hM (j, g) (by simp)
    have h2 := hM (j', g') (by simp)
    have h3 := hM (j'', g'') (by simp)
    simp only at h1 h2 h3
    simp at nd
    omega
end

section
variable {P : Program} {id : Nat} {Q : Exit → Act → World → Prop} {a : Act} {w : World} {l : List Oper}
theorem rgnA (T : TypeId) (z : Value) (cs : Array Value) (n : Nat) (hm : P.follows .mixedOrders = true) (hB : Region.lexTailB .any l.toArray n = true) (hA : alB l.toArray T n = true) (hz : (P.info? T).map (·.zero) = some (some z)) (hcs : z.cells = cs)
    (h : wpO P l.toArray w T (fun a' => ∀ M listed w', listed.size = l.toArray.size → n ≤ l.toArray.size → (∀ i, i < n → listed.getD i true = true) → InvL l.toArray w T cs n M listed w' → wpList P l.toArray Q (l.drop n) (putL l.toArray a' M) w') (l.take n) a) : (Code.region id l.toArray true).wp P Q a w := by
  simp only [Region.lexTailB, Bool.and_eq_true, decide_eq_true_eq] at hB
  obtain ⟨⟨⟨⟨hsel, hn⟩, hs⟩, hc⟩, hlex⟩ := hB
  have hn' : n < l.length := by simpa using hn
  have htl : (l.take n).length = n := by simp; omega
  have hdl : (l.drop n).length = l.toArray.size - n := by simp
  have inv0 : HeadInv .any l.toArray n (Array.replicate l.toArray.size false) :=
    ⟨by simp, fun j oj _ hl => (by rw [getD_replicate_false] at hl; cases hl), fun t _ ht => getD_in (by simpa using ht) (getD_replicate_false _ _)⟩
  have H := headO_lex (md := .any) (g := l.toArray.size - n) hsel (by omega) (fun i hi listed inv hun => tail_waits hs hc hn inv _ i rfl hi hun) (l.take n) 0 _ a (fun j hj => by
    have hj' : j < n := by rw [htl] at hj; exact hj
    simp [hj']) (by simpa using htl) inv0 (fun i hi => absurd hi (by omega)) (by rw [htl]; exact hlex) h
  refine wp_region_any hm ?_
  have := any_of_headO (Q := Q) (g := l.toArray.size - n) (cs := cs) (z := z) hsel hA hz hcs (fun listed a' w' M hsz hI hall hL => by
    have := wpAny_of_seq (md := .any) (Q' := Q) (l.drop n) n listed (putL l.toArray a' M) w' (fun j => by simp [List.getElem?_drop]) (by rw [hdl]; exact hL.1) (hL.2.2 M listed w' hsz (by omega) hall hI)
    rwa [hdl] at this) (fun listed a' hL => hL.2.1) _ _ _ _ [] (by simp) ⟨Cls.refl, by simp, by simp, fun i o _ _ _ hl => (by rw [getD_replicate_false] at hl; cases hl), by simp, by simp⟩ H
  rw [htl, show n + (l.toArray.size - n) = l.toArray.size by omega] at this
  exact this
/-- One new variable. -/
theorem rgnA1 (T : TypeId) (z : Value) (cs : Array Value) (n i : Nat) (d : Tmp) (hm : P.follows .mixedOrders = true) (hB : Region.lexTailB .any l.toArray n = true) (hA : alB l.toArray T n = true)
    (hone : ((List.range n).filter fun j => match l.toArray[j]? with | some o => isAl T o | none => false) = [i]) (hd : (l.toArray[i]?).bind (·.dst) = some d) (hz : (P.info? T).map (·.zero) = some (some z)) (hcs : z.cells = cs)
    (h : wpO P l.toArray w T (fun a' => ∀ g w', Cls w w' → Blk w' g T cs → w.heap.size ≤ g → wpList P l.toArray Q (l.drop n) (a'.put (some d) (.pointer (some ⟨g, 0, none⟩))) w') (l.take n) a) : (Code.region id l.toArray true).wp P Q a w := by
  refine rgnA T z cs n hm hB hA hz hcs (wpO_mono (fun a' h M listed w' hsz hns hall hI => ?_) _ _ h)
  obtain ⟨g, rfl⟩ := hI.one hall hsz hns hone
  have hb := hI.blk (i, g) (by simp)
  simp only [putL, hd]
  exact h g w' hI.cls hb.1 hb.2
/-- Two new variables. -/
theorem rgnA2 (T : TypeId) (z : Value) (cs : Array Value) (n i i2 : Nat) (d d2 : Tmp) (hm : P.follows .mixedOrders = true) (hB : Region.lexTailB .any l.toArray n = true) (hA : alB l.toArray T n = true)
    (htwo : ((List.range n).filter fun j => match l.toArray[j]? with | some o => isAl T o | none => false) = [i, i2]) (hd : (l.toArray[i]?).bind (·.dst) = some d) (hd2 : (l.toArray[i2]?).bind (·.dst) = some d2) (hne : d ≠ d2) (hz : (P.info? T).map (·.zero) = some (some z)) (hcs : z.cells = cs)
    (h : wpO P l.toArray w T (fun a' => ∀ g g2 w', Cls w w' → Blk w' g T cs → Blk w' g2 T cs → w.heap.size ≤ g → w.heap.size ≤ g2 → g ≠ g2 → wpList P l.toArray Q (l.drop n) ((a'.put (some d) (.pointer (some ⟨g, 0, none⟩))).put (some d2) (.pointer (some ⟨g2, 0, none⟩))) w') (l.take n) a) : (Code.region id l.toArray true).wp P Q a w := by
  refine rgnA T z cs n hm hB hA hz hcs (wpO_mono (fun a' h M listed w' hsz hns hall hI => ?_) _ _ h)
  obtain ⟨g, g2, hM⟩ := hI.two hall hsz hns htwo
  have hne' : ∀ d3, some d2 = some d3 → some d ≠ some d3 := fun d3 h h' => hne ((Option.some.inj h').trans (Option.some.inj h).symm)
  have hcomm := Act.put_comm a' (.pointer (some ⟨g2, 0, none⟩)) (.pointer (some ⟨g, 0, none⟩)) (x := some d2) (y := some d) hne'
  rcases hM with rfl | rfl
  · have hb := hI.blk (i, g) (by simp)
    have hb2 := hI.blk (i2, g2) (by simp)
    have hg : g ≠ g2 := by have := hI.nd2; simpa using this
    simp only [putL, hd, hd2]
    rw [hcomm]
    exact h g g2 w' hI.cls hb.1 hb2.1 hb.2 hb2.2 hg
  · have hb := hI.blk (i, g) (by simp)
    have hb2 := hI.blk (i2, g2) (by simp)
    have hg : g ≠ g2 := by have := hI.nd2; simpa using Ne.symm (by simpa using this)
    simp only [putL, hd, hd2]
    exact h g g2 w' hI.cls hb.1 hb2.1 hb.2 hb2.2 hg
end

section
variable {P : Program} {ops : Array Oper} {w0 : World} {T : TypeId} {Q : Act → Prop} {rest : List Oper} {o : Oper} {a : Act}
/-- A new variable: its slot is left. -/
theorem oA (h1 : isAl T o = true) (h : wpO P ops w0 T Q rest a) : wpO P ops w0 T Q (o :: rest) a := ⟨undef, .inl h1, by unfold nx; rw [if_pos h1]; exact h⟩
theorem nx_not {v : Value} (h1 : isAl T o = false) : nx T o v a = a.put o.dst v := by unfold nx; rw [if_neg (by simp [h1])]
theorem oU (h1 : isAl T o = false) (hw : Region.wanted o (yielded ops a.tmps) = false) (h : wpO P ops w0 T Q rest (a.put o.dst undef)) : wpO P ops w0 T Q (o :: rest) a := ⟨undef, .inr (.inr ⟨hw, rfl⟩), by rw [nx_not h1]; exact h⟩
/-- One operation, as the walk meets it. -/
theorem oW (v : Value) (h1 : isAl T o = false) (hlt : (match o.dst with | some d => decide (d < a.tmps.size) | none => true) = true) (hw : Region.wanted o (yielded ops a.tmps) = true)
    (hv : ∀ w, Cls w0 w → ∀ K : Act → World → Prop, (∀ w', Only [] w w' → K (a.put o.dst v) w') → o.wp P a w K fun _ _ _ => False) (h : wpO P ops w0 T Q rest (a.put o.dst v)) : wpO P ops w0 T Q (o :: rest) a := by
  refine ⟨v, .inr (.inl ⟨hw, fun w hC => ?_⟩), by rw [nx_not h1]; exact h⟩
  have hput : ∀ u : Value, a.put o.dst u = a.put o.dst v → o.dst = none ∨ u = v := by
    intro u hu
    cases hd : o.dst with
    | none => exact .inl rfl
    | some d =>
      rw [hd] at hu hlt
      have hlt : d < a.tmps.size := by simpa using hlt
      have : (a.put (some d) u).tmps[d]? = (a.put (some d) v).tmps[d]? := by rw [hu]
      exact .inr (by simpa [Act.put, hlt] using this)
  have := hv w hC (fun a' w' => a' = a.put o.dst v ∧ Only [] w w') (fun w' h => ⟨rfl, h⟩)
  unfold Oper.wp at this
  generalize (execOp a.eval o).run P w = r at *
  cases r with
  | ok n w' =>
    cases n <;> simp only [Oper.upon] at this <;> simp only [kUpon]
    case value u => exact ⟨hput _ this.1, this.2⟩
    case skip => exact ⟨hput _ this.1, this.2⟩
    case enter f args =>
      refine this.mono fun e w'' he => ?_
      cases e with
      | returned u => exact ⟨u, rfl, hput _ he.1, he.2⟩
      | panicked c => exact he.elim
      | outgrown => exact absurd he (by rintro ⟨_, _, h⟩; exact h)
    case row row args => exact this.mono fun u w'' he => ⟨hput _ he.1, he.2⟩
    case defer d =>
      have h1 := congrArg Act.defers this.1
      have h2 : ∀ (b : Act) (x : Value), (b.put o.dst x).defers = b.defers := fun b x => by unfold Act.put; split <;> rfl
      rw [h2, h2] at h1
      exact absurd (congrArg List.length h1) (by simp)
  | halt x w' => cases x <;> simp only [Oper.upon] at this
/-- A whole array or struct out of its block. -/
theorem oR {g : Nat} {ty t : TypeId} {cs : Array Value} {d : TypeDesc} (X : Operand) (hb : Blk w0 g t cs) (h1 : isAl T o = false) (hw : Region.wanted o (yielded ops a.tmps) = true) (ho : o.op = .load ty X) (hx : a.eval X = .pointer (some ⟨g, 0, none⟩))
    (hu : P.underlying ty = some d) (hd : (match d with | .struct _ | .array _ _ => true | _ => false) = true) (hi : (P.info? ty).map (·.size) = some cs.size)
    (h : wpO P ops w0 T Q rest (a.put o.dst (.agg cs))) : wpO P ops w0 T Q (o :: rest) a := by
  refine ⟨.agg cs, .inr (.inl ⟨hw, fun w hC => ?_⟩), by rw [nx_not h1]; exact h⟩
  unfold execOp
  simp only [ho, hx, Instr.loadAt, Instr.sureAddr, Sem.run_bind, Sem.run_pure, Result.andThen_ok, run_loadVar_row w g t ty cs (0, 0) d (hC.blk hb) hu hd hi]
  exact ⟨.inr rfl, Only.refl _ _⟩
/-- A call, by its contract. -/
theorem oC {v : Value} {f : FuncId} {args : Array Value} (hc : ∀ w, Cls w0 w → Calls P f args w fun e w' => e = .returned v ∧ Only [] w w') (h1 : isAl T o = false) (hw : Region.wanted o (yielded ops a.tmps) = true) (hv : ∀ w, (execOp a.eval o).run P w = .ok (.enter f args) w)
    (h : wpO P ops w0 T Q rest (a.put o.dst v)) : wpO P ops w0 T Q (o :: rest) a :=
  ⟨v, .inr (.inl ⟨hw, fun w hC => by rw [hv w]; exact (hc w hC).mono fun e w' ⟨he, hC'⟩ => ⟨v, he, .inr rfl, hC'⟩⟩), by rw [nx_not h1]; exact h⟩
theorem oN (h : Q a) : wpO P ops w0 T Q [] a := h
theorem Calls.only_same {f : FuncId} {args : Array Value} {v : Value} {w : World} (hc : Calls P f args w fun e w' => e = .returned v ∧ w = w') : Calls P f args w fun e w' => e = .returned v ∧ Only [] w w' :=
  hc.mono fun _ _ ⟨he, ho⟩ => ⟨he, ho ▸ Only.refl _ _⟩
end
end Go.Proofs.YtmjjdehicngffaaDoor
