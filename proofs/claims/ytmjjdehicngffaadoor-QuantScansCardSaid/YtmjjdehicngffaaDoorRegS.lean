/- A region that draws its order, in whose head one new variable is made and its value laid into it: one walk in the order of the text. Plain lemmas, no condition. -/
import Derived.Test.YtmjjdehicngffaaDoorRegA
namespace Go.Proofs.YtmjjdehicngffaaDoor
open Go.RowKit

section
variable {P : Program} {ops : Array Oper} {md : Region.Mode} {w0 : World} {T : TypeId} {cs cs' : Array Value} {D : Tmp × Array Value}
/-- The value D.2 is laid into the variable whose address slot D.1 holds. -/
def isSt (T : TypeId) (D : Tmp × Array Value) (o : Oper) (a : Act) : Prop := o.guard = none ∧ o.dst = none ∧ ∃ X, o.op = .store T (.tmp D.1) X ∧ X ≠ .tmp D.1 ∧ a.eval X = .agg D.2
def stTo (T : TypeId) (d : Tmp) (o : Oper) : Bool := match o.op with | .store t (.tmp e) _ => t == T && e == d | _ => false
def Ks (P : Program) (ops : Array Oper) (w0 : World) (T : TypeId) (D : Tmp × Array Value) (o : Oper) (v : Value) (a : Act) : Prop := isAl T o = true ∨ (stTo T D.1 o = true ∧ isSt T D o a) ∨ (stTo T D.1 o = false ∧ KpO P ops w0 o v a)
def wpS (P : Program) (ops : Array Oper) (w0 : World) (T : TypeId) (D : Tmp × Array Value) (Q : Act → Prop) : List Oper → Act → Prop
  | [], a => Q a
  | o :: rest, a => ∃ v, Ks P ops w0 T D o v a ∧ wpS P ops w0 T D Q rest (nx T o v a)
theorem wpS_mono {Q Q' : Act → Prop} (h : ∀ a, Q a → Q' a) : ∀ (l : List Oper) (a : Act), wpS P ops w0 T D Q l a → wpS P ops w0 T D Q' l a
  | [], _, hh => h _ hh
  | _ :: l, _, ⟨v, hk, hh⟩ => ⟨v, hk, wpS_mono h l _ hh⟩
def headS (P : Program) (md : Region.Mode) (ops : Array Oper) (w0 : World) (T : TypeId) (D : Tmp × Array Value) (n : Nat) (L : Array Bool → Act → Prop) : Nat → Array Bool → Act → Prop
  | 0, listed, a => L listed a
  | f + 1, listed, a => Region.ready md ops listed ≠ [] ∧ ∀ i ∈ Region.ready md ops listed, i < n ∧ ∃ o v, ops[i]? = some o ∧ Ks P ops w0 T D o v a ∧ headS P md ops w0 T D n L f (listed.setIfInBounds i true) (nx T o v a)
theorem isSt.of_put {x y : Oper} {v : Value} {a : Act} (h1 : ∀ d, x.dst = some d → d ∉ y.looksAt ops) : isSt T D y (a.put x.dst v) ↔ isSt T D y a := by
  have key : ∀ X, y.op = .store T (.tmp D.1) X → (a.put x.dst v).eval X = a.eval X := by
    intro X hX
    refine Act.eval_put fun d hd e => h1 d hd ?_
    subst e
    unfold Oper.looksAt
    rw [hX]
    simp [Op.operands]
  constructor
  · rintro ⟨hg, hd, X, hX, hne, he⟩; exact ⟨hg, hd, X, hX, hne, by rw [← key X hX]; exact he⟩
  · rintro ⟨hg, hd, X, hX, hne, he⟩; exact ⟨hg, hd, X, hX, hne, by rw [key X hX]; exact he⟩
theorem Ks.of_nx {x y : Oper} {u v : Value} {a : Act} (hs : ∀ cs b, y.op ≠ .select cs b) (h : x.apart ops y = true) : Ks P ops w0 T D y u (nx T x v a) ↔ Ks P ops w0 T D y u a := by
  obtain ⟨h1, _, _⟩ := Oper.apart_spec h
  unfold nx
  split
  · exact Iff.rfl
  · constructor
    · rintro (k | k | k)
      · exact .inl k
      · exact .inr (.inl ⟨k.1, (isSt.of_put h1).1 k.2⟩)
      · exact .inr (.inr ⟨k.1, k.2.of_same (execOp_put y hs a x.dst v h1).symm (wanted_put y a x.dst v h1).symm⟩)
    · rintro (k | k | k)
      · exact .inl k
      · exact .inr (.inl ⟨k.1, (isSt.of_put h1).2 k.2⟩)
      · exact .inr (.inr ⟨k.1, k.2.of_same (execOp_put y hs a x.dst v h1) (wanted_put y a x.dst v h1)⟩)
theorem headS_first {n i : Nat} {oi : Oper} {v : Value} {L : Array Bool → Act → Prop} (hi : ops[i]? = some oi) (hsel : Region.noSelect ops = true)
    (hin : i < n) (htail : ∀ listed, HeadInv md ops n listed → listed.getD i true = false → ∀ t, n ≤ t → t ∉ Region.ready md ops listed)
    (hdone : ∀ listed a, L listed a → ∀ j ∈ Region.ready md ops listed, n ≤ j) :
    ∀ (f : Nat) (listed : Array Bool) (a : Act), HeadInv md ops n listed →
      (∀ j oj, ops[j]? = some oj → j ≠ i → listed.getD j true = false → (∀ e ∈ oj.after, Region.binds md e = true → e.on ≠ i) → oi.apart ops oj = true) →
      i ∈ Region.ready md ops listed → Ks P ops w0 T D oi v a →
      headS P md ops w0 T D n L f (listed.setIfInBounds i true) (nx T oi v a) → headS P md ops w0 T D n L (f + 1) listed a := by
  intro f
  induction f with
  | zero =>
    intro listed a inv _ hr hy H
    have hun := (mem_ready.1 hr).1
    refine ⟨List.ne_nil_of_mem hr, fun j hj => ?_⟩
    have hjn : j < n := Nat.lt_of_not_le fun h => htail listed inv hun j h hj
    refine ⟨hjn, ?_⟩
    by_cases hji : j = i
    · subst hji; exact ⟨oi, v, hi, hy, H⟩
    · exact absurd (hdone _ _ H j (ready_mono hj hji)) (by omega)
  | succ f ih =>
    intro listed a inv hfree hr hy H
    have hun := (mem_ready.1 hr).1
    refine ⟨List.ne_nil_of_mem hr, fun j hj => ?_⟩
    have hjn : j < n := Nat.lt_of_not_le fun h => htail listed inv hun j h hj
    refine ⟨hjn, ?_⟩
    by_cases hji : j = i
    · subst hji; exact ⟨oi, v, hi, hy, H⟩
    · obtain ⟨_, oj, u, hoj, hyj, hk⟩ := H.2 j (ready_mono hj hji)
      obtain ⟨hjun, oj', hoj', hall⟩ := mem_ready.1 hj
      obtain rfl : oj' = oj := Option.some.inj (hoj'.symm.trans hoj)
      have hap := hfree j oj' hoj hji hjun fun e he hb heq => by
        have h1 := hall e he hb
        rw [heq, getD_both hun] at h1
        cases h1
      refine ⟨oj', u, hoj, (Ks.of_nx (fun cs b => Region.noSelect_spec hsel j oj' cs b hoj) hap).1 hyj, ?_⟩
      refine ih (listed.setIfInBounds j true) (nx T oj' u a) (inv.set hj hjn) (fun k ok hk' hki hun' hno => hfree k ok hk' hki ?_ hno) (ready_mono hr (Ne.symm hji))
        ((Ks.of_nx (fun cs b => Region.noSelect_spec hsel i oi cs b hi) (apart_symm hap)).2 hy) ?_
      · by_cases hjk : j = k
        · subst hjk; exact hjun
        · rw [getD_set_ne true hjk] at hun'; exact hun'
      · rw [Array.setIfInBounds_comm _ _ hji, ← nx_comm hap]
        exact hk
theorem headS_lex {n g : Nat} {Lq : Act → Prop} (hsel : Region.noSelect ops = true) (hns : n ≤ ops.size) (htail : ∀ i, i < n → ∀ listed, HeadInv md ops n listed → listed.getD i true = false → ∀ t, n ≤ t → t ∉ Region.ready md ops listed) :
    ∀ (l : List Oper) (k : Nat) (listed : Array Bool) (a : Act), (∀ j, j < l.length → l[j]? = ops[k + j]?) → k + l.length = n → HeadInv md ops n listed → (∀ i, i < k → listed.getD i true = true) →
    Region.lexHead md ops g l.length k listed = true → wpS P ops w0 T D Lq l a →
    headS P md ops w0 T D n (fun listed' a' => Region.seqB md ops g n listed' = true ∧ (∀ i, i < n → listed'.getD i true = true) ∧ Lq a') l.length listed a
  | [], k, listed, a, _, hk, _, hd, hB, h => by
    obtain rfl : k = n := by simpa using hk
    exact ⟨hB, hd, h⟩
  | o :: l, k, listed, a, hl, hk, inv, hd, hB, h => by
    have h0 : ops[k]? = some o := by simpa using (hl 0 (by simp)).symm
    simp only [List.length_cons, Region.lexHead, Bool.and_eq_true] at hB
    simp only [List.length_cons] at hk
    obtain ⟨⟨hr, hf⟩, hB'⟩ := hB
    have hr' : k ∈ Region.ready md ops listed := by simpa using hr
    obtain ⟨v, hy, hK⟩ := h
    refine headS_first h0 hsel (by omega) (htail k (by omega)) (fun listed' a' hL => seqB_ready hL.1) l.length listed a inv (Region.free_spec h0 hf) hr' hy
      (headS_lex hsel hns htail l (k + 1) _ _ (fun j hj => ?_) (by omega) (inv.set hr' (by omega)) (fun i hi => ?_) hB' hK)
    · have := hl (j + 1) (by simp; omega)
      simpa [Nat.add_assoc, Nat.add_comm 1 j] using this
    · by_cases e : k = i
      · subst e
        have : k < listed.size := by rw [inv.size]; omega
        simp [this]
      · rw [getD_set_ne true e]; exact hd i (by omega)


/-- Every other operation of the head neither looks at the new variable's slot nor writes it. -/
def stB (ops : Array Oper) (T : TypeId) (d : Tmp) (n ia is : Nat) : Bool :=
  ((List.range n).all fun j => match ops[j]? with
    | some o => if j = ia then isAl T o && o.dst == some d else if j = is then !isAl T o && stTo T d o else !isAl T o && !stTo T d o && !(o.looksAt ops).contains d && o.dst != some d
    | none => false) && Region.waitsFor .any ops is ia && decide (ia < n) && decide (is < n) && ia != is
/-- How far the new variable has come. -/
inductive InvS (w0 : World) (T : TypeId) (cs : Array Value) (D : Tmp × Array Value) (ia is : Nat) (listed : Array Bool) (a b : Act) (w : World) : Prop
  | no : listed.getD ia true = false → listed.getD is true = false → b = a → Cls w0 w → InvS w0 T cs D ia is listed a b w
  | made (g : Nat) : listed.getD ia false = true → listed.getD is true = false → b = a.put (some D.1) (.pointer (some ⟨g, 0, none⟩)) → Cls w0 w → Blk w g T cs → w0.heap.size ≤ g → InvS w0 T cs D ia is listed a b w
  | laid (g : Nat) : listed.getD ia false = true → listed.getD is false = true → b = a.put (some D.1) (.pointer (some ⟨g, 0, none⟩)) → Cls w0 w → Blk w g T D.2 → w0.heap.size ≤ g → InvS w0 T cs D ia is listed a b w
theorem InvS.cls {ia is : Nat} {listed : Array Bool} {a b : Act} {w : World} (h : InvS w0 T cs D ia is listed a b w) : Cls w0 w := by cases h <;> assumption
theorem InvS.step {ia is j : Nat} {listed : Array Bool} {a b : Act} {w w' : World} {dj : Option Tmp} {u : Value} (h : InvS w0 T cs D ia is listed a b w) (hw : Only [] w w') (h1 : j ≠ ia) (h2 : j ≠ is) (hd : dj ≠ some D.1) : InvS w0 T cs D ia is (listed.setIfInBounds j true) (a.put dj u) (b.put dj u) w' := by
  have hc : ∀ x : Value, (a.put (some D.1) x).put dj u = (a.put dj u).put (some D.1) x := fun x => Act.put_comm a x u (fun d h => by rw [← h]; exact hd)
  cases h with
  | no h1' h2' e hcl => exact .no (by rw [getD_set_ne true h1]; exact h1') (by rw [getD_set_ne true h2]; exact h2') (by rw [e]) (hcl.then hw)
  | made g h1' h2' e hcl hb hg => exact .made g (by rw [getD_set_ne false h1]; exact h1') (by rw [getD_set_ne true h2]; exact h2') (by rw [e, hc]) (hcl.then hw) (hb.only hw (by simp)) hg
  | laid g h1' h2' e hcl hb hg => exact .laid g (by rw [getD_set_ne false h1]; exact h1') (by rw [getD_set_ne false h2]; exact h2') (by rw [e, hc]) (hcl.then hw) (hb.only hw (by simp)) hg
theorem any_of_headS {n g ia is : Nat} {L : Array Bool → Act → Prop} {Q : Exit → Act → World → Prop} {z : Value} (hsel : Region.noSelect ops = true) (hB : stB ops T D.1 n ia is = true) (hz : (P.info? T).map (·.zero) = some (some z)) (hcs : z.cells = cs)
    (hi : (P.info? T).map (·.size) = some D.2.size) (hs : cs.size = D.2.size) (h1 : D.2.all (·.oneCell') = true)
    (hL : ∀ listed a b w, InvS w0 T cs D ia is listed a b w → L listed a → wpAny P .any ops Q g listed b w) :
    ∀ (f : Nat) (listed : Array Bool) (a b : Act) (w : World), listed.size = ops.size → D.1 < a.tmps.size → InvS w0 T cs D ia is listed a b w → headS P .any ops w0 T D n L f listed a → wpAny P .any ops Q (f + g) listed b w
  | 0, listed, a, b, w, _, _, inv, h => by rw [Nat.zero_add]; exact hL _ _ _ _ inv h
  | f + 1, listed, a, b, w, hsz, hDs, inv, h => by
    rw [Nat.succ_add]
    refine ⟨fun h0 => absurd h0 h.1, fun j hj => ?_⟩
    obtain ⟨hjn, o, v, ho, hk, hH⟩ := h.2 j hj
    obtain ⟨hun, o', ho', hall⟩ := mem_ready.1 hj
    obtain rfl : o' = o := Option.some.inj (ho'.symm.trans ho)
    have hjs : j < listed.size := by rw [hsz]; exact (Array.getElem?_eq_some_iff.1 ho).1
    have hself : (listed.setIfInBounds j true).getD j false = true := by simp [hjs]
    have hB' := hB
    simp only [stB, Bool.and_eq_true, decide_eq_true_eq, bne_iff_ne, ne_eq] at hB'
    obtain ⟨⟨⟨⟨hall0, hwait⟩, hian⟩, hisn⟩, hne⟩ := hB'
    have hj0 := List.all_eq_true.1 hall0 j (List.mem_range.2 hjn)
    simp only [ho] at hj0
    have hput : ∀ (dd : Option Tmp) (x : Value), (a.put dd x).tmps.size = a.tmps.size := fun dd x => by unfold Act.put; split <;> simp
    by_cases hja : j = ia
    · subst hja
      simp only [if_true, Bool.and_eq_true, beq_iff_eq] at hj0
      obtain ⟨ha, hd⟩ := hj0
      have hgd : o'.guard = none := by
        simp only [isAl, Bool.and_eq_true] at ha
        simpa using ha.1.1
      have hop : o'.op = .alloc T := by
        simp only [isAl, Bool.and_eq_true] at ha
        have := ha.2
        split at this
        · rename_i t ht; rw [ht]; simp at this; rw [this]
        · cases this
      have hba : b = a ∧ Cls w0 w ∧ listed.getD is true = false := by
        cases inv with
        | no _ h2' e hc => exact ⟨e, hc, h2'⟩
        | made g' h1' _ _ _ _ _ => rw [getD_both hun] at h1'; cases h1'
        | laid g' h1' _ _ _ _ _ => rw [getD_both hun] at h1'; cases h1'
      unfold wpOp
      simp only [ho]
      have hwa : Region.wanted o' (yielded ops b.tmps) = true := by simp [Region.wanted, hgd]
      rw [if_pos hwa]
      refine .inl ?_
      cases hi' : P.info? T with
      | none => simp [hi'] at hz
      | some i =>
        have hz' : i.zero = some z := by simpa [hi'] using hz
        have hzv : (zeroValue T).run P w = .ok z w := by simp [zeroValue, typeInfo, hi', hz']
        have hnx : nx T o' v a = a := by unfold nx; rw [if_pos ha]
        rw [hnx] at hH
        have hrec := any_of_headS hsel hB hz hcs hi hs h1 hL f (listed.setIfInBounds j true) a (b.put o'.dst (.pointer (some ⟨w.heap.size, 0, none⟩))) (w.alloc (.cells cs T)) (by simp [hsz]) hDs
          (.made w.heap.size hself (by rw [getD_set_ne true hne]; exact hba.2.2) (by rw [hba.1, hd]) (hba.2.1.then ((Only.refl _ _).alloc _)) (Blk.new _ _ _) hba.2.1.only.size) hH
        unfold Oper.wp execOp
        simp only [hop, Instr.alloc, Sem.run_bind, hzv, Result.andThen_ok, newVar, newRow, hcs]
        exact hrec
    · by_cases hjs' : j = is
      · subst hjs'
        simp only [if_neg hja, if_true, Bool.and_eq_true, Bool.not_eq_true'] at hj0
        obtain ⟨hna, hst0⟩ := hj0
        have hst : isSt T D o' a := by
          rcases hk with k | k | k
          · rw [hna] at k; cases k
          · exact k.2
          · rw [hst0] at k; cases k.1
        obtain ⟨hgd, hdst, X, hX, hne', heX⟩ := hst
        obtain ⟨e, he, hb, hon⟩ : ∃ e ∈ o'.after, Region.binds .any e = true ∧ e.on = ia := by
          obtain ⟨ois, hois, e, he, hb, hon⟩ := Region.waitsFor_spec hwait
          obtain rfl : ois = o' := Option.some.inj (hois.symm.trans ho)
          exact ⟨e, he, hb, hon⟩
        have hia : listed.getD ia false = true := by have := hall e he hb; rwa [hon] at this
        obtain ⟨g', hbe, hcl, hblk, hg⟩ : ∃ g', b = a.put (some D.1) (.pointer (some ⟨g', 0, none⟩)) ∧ Cls w0 w ∧ Blk w g' T cs ∧ w0.heap.size ≤ g' := by
          cases inv with
          | no h1' _ _ _ => rw [getD_both h1'] at hia; cases hia
          | made g' _ _ e hc hb hg => exact ⟨g', e, hc, hb, hg⟩
          | laid g' _ h2' _ _ _ _ => rw [getD_both hun] at h2'; cases h2'
        have hnx : nx T o' v a = a := by unfold nx; rw [if_neg (by simp [hna]), hdst]; rfl
        rw [hnx] at hH
        unfold wpOp
        simp only [ho]
        have hwa : Region.wanted o' (yielded ops b.tmps) = true := by simp [Region.wanted, hgd]
        rw [if_pos hwa]
        refine .inl (wp_store_row T (.tmp D.1) X hX g' D.2 ?_ ?_ T cs hblk hi hs h1 ?_)
        · rw [hbe]; simp [Act.eval, Act.put, hDs]
        · rw [hbe, Act.eval_put (fun d hd e => hne' (by rw [e]; exact congrArg _ (Option.some.inj hd).symm))]; exact heX
        · rw [hdst]
          refine any_of_headS hsel hB hz hcs hi hs h1 hL f (listed.setIfInBounds j true) a b (w.setRow g' D.2) (by simp [hsz]) hDs
            (.laid g' (by rw [getD_set_ne false (by omega)]; exact hia) hself hbe ?_ (hblk.row _) hg) hH
          exact Only.setRow hcl (.inr hg) _
      · simp only [if_neg hja, if_neg hjs', Bool.and_eq_true, Bool.not_eq_true', bne_iff_ne, ne_eq] at hj0
        obtain ⟨⟨⟨hna, hst0⟩, hlook⟩, hdj⟩ := hj0
        have hkp : KpO P ops w0 o' v a := by
          rcases hk with k | k | k
          · rw [hna] at k; cases k
          · rw [hst0] at k; cases k.1
          · exact k.2
        have hkb : KpO P ops w0 o' v b := by
          have hl : ∀ d, some D.1 = some d → d ∉ o'.looksAt ops := fun d hd => by rw [← Option.some.inj hd]; simpa using hlook
          have hsj := fun cs b => Region.noSelect_spec hsel j o' cs b ho
          cases inv with
          | no _ _ e _ => rw [e]; exact hkp
          | made g' _ _ e _ _ _ => rw [e]; exact hkp.of_same (execOp_put o' hsj a (some D.1) _ hl) (wanted_put o' a (some D.1) _ hl)
          | laid g' _ _ e _ _ _ => rw [e]; exact hkp.of_same (execOp_put o' hsj a (some D.1) _ hl) (wanted_put o' a (some D.1) _ hl)
        have hnx : nx T o' v a = a.put o'.dst v := by unfold nx; rw [if_neg (by simp [hna])]
        rw [hnx] at hH
        have hcont : ∀ w', Only [] w w' → wpAny P .any ops Q (f + g) (listed.setIfInBounds j true) (b.put o'.dst v) w' := fun w' hw' =>
          any_of_headS hsel hB hz hcs hi hs h1 hL f _ _ _ w' (by simp [hsz]) (by rw [hput]; exact hDs) (inv.step hw' hja hjs' hdj) hH
        have hcl := inv.cls
        unfold wpOp
        simp only [ho]
        rcases hkb with ⟨hwa, hv⟩ | ⟨hwa, rfl⟩
        · simp only [hwa, if_true]
          refine .inl ?_
          have := hv w hcl
          unfold Oper.wp
          generalize (execOp b.eval o').run P w = r at *
          cases r with
          | ok nx' w' =>
            cases nx' <;> simp only [kUpon] at this <;> simp only [Oper.upon]
            case value u => rw [put_or this.1]; exact hcont _ this.2
            case skip => rw [put_or this.1]; exact hcont _ this.2
            case enter f' args => exact this.mono fun e w'' ⟨u, he, hu, hc⟩ => by subst he; show wpAny _ _ _ _ _ _ _ _; rw [put_or hu]; exact hcont _ hc
            case row row args => exact this.mono fun u w'' ⟨hu, hc⟩ => by rw [put_or hu]; exact hcont _ hc
          | halt x w' => simp only [kUpon] at this
        · simp only [hwa, Bool.false_eq_true, if_false]; exact hcont _ (Only.refl _ _)
end

section
variable {P : Program} {id : Nat} {Q : Exit → Act → World → Prop} {a : Act} {w : World} {l : List Oper}
/-- One new variable, and its value laid into it. -/
theorem rgnS (T : TypeId) (z : Value) (cs cs' : Array Value) (n ia is : Nat) (d : Tmp) (hm : P.follows .mixedOrders = true) (hB : Region.lexTailB .any l.toArray n = true) (hA : stB l.toArray T d n ia is = true) (hz : (P.info? T).map (·.zero) = some (some z)) (hcs : z.cells = cs)
    (hi : (P.info? T).map (·.size) = some cs'.size) (hs : cs.size = cs'.size) (h1 : cs'.all (·.oneCell') = true) (hds : d < a.tmps.size)
    (h : wpS P l.toArray w T (d, cs') (fun a' => ∀ g w', Cls w w' → Blk w' g T cs' → w.heap.size ≤ g → wpList P l.toArray Q (l.drop n) (a'.put (some d) (.pointer (some ⟨g, 0, none⟩))) w') (l.take n) a) : (Code.region id l.toArray true).wp P Q a w := by
  simp only [Region.lexTailB, Bool.and_eq_true, decide_eq_true_eq] at hB
  obtain ⟨⟨⟨⟨hsel, hn⟩, hs'⟩, hc⟩, hlex⟩ := hB
  have hn' : n < l.length := by simpa using hn
  have htl : (l.take n).length = n := by simp; omega
  have hdl : (l.drop n).length = l.toArray.size - n := by simp
  have hA' := hA
  simp only [stB, Bool.and_eq_true, decide_eq_true_eq, bne_iff_ne, ne_eq] at hA'
  obtain ⟨⟨⟨⟨_, _⟩, hian⟩, hisn⟩, hne⟩ := hA'
  have inv0 : HeadInv .any l.toArray n (Array.replicate l.toArray.size false) :=
    ⟨by simp, fun j oj _ hl => (by rw [getD_replicate_false] at hl; cases hl), fun t _ ht => getD_in (by simpa using ht) (getD_replicate_false _ _)⟩
  have H := headS_lex (md := .any) (g := l.toArray.size - n) hsel (by omega) (fun i hi listed inv hun => tail_waits hs' hc hn inv _ i rfl hi hun) (l.take n) 0 _ a (fun j hj => by
    have hj' : j < n := by rw [htl] at hj; exact hj
    simp [hj']) (by simpa using htl) inv0 (fun i hi => absurd hi (by omega)) (by rw [htl]; exact hlex) h
  refine wp_region_any hm ?_
  have := any_of_headS (ops := l.toArray) (Q := Q) (g := l.toArray.size - n) (cs := cs) (z := z) (D := (d, cs')) hsel hA hz hcs hi hs h1 (fun listed a' b w' hI hL => by
    obtain ⟨g, hb, hcl, hblk, hg⟩ : ∃ g, b = a'.put (some d) (.pointer (some ⟨g, 0, none⟩)) ∧ Cls w w' ∧ Blk w' g T cs' ∧ w.heap.size ≤ g := by
      cases hI with
      | no h1' _ _ _ => have := hL.2.1 ia hian; rw [this] at h1'; cases h1'
      | made g' _ h2' _ _ _ _ => have := hL.2.1 is hisn; rw [this] at h2'; cases h2'
      | laid g' _ _ e hc hb hg => exact ⟨g', e, hc, hb, hg⟩
    have := wpAny_of_seq (ops := l.toArray) (P := P) (md := .any) (Q' := Q) (l.drop n) n listed b w' (fun j => by simp [List.getElem?_drop]) (by rw [hdl]; exact hL.1) (by rw [hb]; exact hL.2.2 g w' hcl hblk hg)
    rwa [hdl] at this) _ _ _ a _ (by simp) hds (.no (getD_in (by simp; omega) (getD_replicate_false _ _)) (getD_in (by simp; omega) (getD_replicate_false _ _)) rfl Cls.refl) H
  rw [htl, show n + (l.toArray.size - n) = l.toArray.size by omega] at this
  exact this
end

section
variable {P : Program} {ops : Array Oper} {w0 : World} {T : TypeId} {D : Tmp × Array Value} {Q : Act → Prop} {rest : List Oper} {o : Oper} {a : Act}
theorem sA (h1 : isAl T o = true) (h : wpS P ops w0 T D Q rest a) : wpS P ops w0 T D Q (o :: rest) a := ⟨undef, .inl h1, by unfold nx; rw [if_pos h1]; exact h⟩
/-- The value is laid into the new variable. -/
theorem sS (X : Operand) (hn : isAl T o = false) (h1 : stTo T D.1 o = true) (hg : o.guard = none) (hd : o.dst = none) (ho : o.op = .store T (.tmp D.1) X) (hX : X ≠ .tmp D.1) (he : a.eval X = .agg D.2) (h : wpS P ops w0 T D Q rest a) : wpS P ops w0 T D Q (o :: rest) a :=
  ⟨undef, .inr (.inl ⟨h1, hg, hd, X, ho, hX, he⟩), by rw [nx_not hn, hd]; exact h⟩
/-- Every other operation: as in a region with new variables alone. -/
theorem sO {l : List Oper} (v : Value) (h0 : isAl T o = false) (h1 : stTo T D.1 o = false) (hk : KpO P ops w0 o v a) (h : wpS P ops w0 T D Q l (a.put o.dst v)) : wpS P ops w0 T D Q (o :: l) a := ⟨v, .inr (.inr ⟨h1, hk⟩), by rw [nx_not h0]; exact h⟩
theorem kU (hw : Region.wanted o (yielded ops a.tmps) = false) : KpO P ops w0 o undef a := .inr ⟨hw, rfl⟩
theorem kW (v : Value) (hlt : (match o.dst with | some d => decide (d < a.tmps.size) | none => true) = true) (hw : Region.wanted o (yielded ops a.tmps) = true)
    (hv : ∀ w, Cls w0 w → ∀ K : Act → World → Prop, (∀ w', Only [] w w' → K (a.put o.dst v) w') → o.wp P a w K fun _ _ _ => False) : KpO P ops w0 o v a := by
  refine .inl ⟨hw, fun w hC => ?_⟩
  have hput : ∀ u : Value, a.put o.dst u = a.put o.dst v → o.dst = none ∨ u = v := by
    intro u hu
    cases hd : o.dst with
    | none => exact .inl rfl
    | some d =>
      rw [hd] at hu hlt
      have hlt : d < a.tmps.size := by simpa using hlt
      have : (a.put (some d) u).tmps[d]? = (a.put (some d) v).tmps[d]? := by rw [hu]
      exact .inr (by simpa [Act.put, hlt] using this)
  have := hv w hC (fun a' w' => a' = a.put o.dst v ∧ Only [] w w') (fun w' h => ⟨rfl, h⟩)
  unfold Oper.wp at this
  generalize (execOp a.eval o).run P w = r at *
  cases r with
  | ok n w' =>
    cases n <;> simp only [Oper.upon] at this <;> simp only [kUpon]
    case value u => exact ⟨hput _ this.1, this.2⟩
    case skip => exact ⟨hput _ this.1, this.2⟩
    case enter f args =>
      refine this.mono fun e w'' he => ?_
      cases e with
      | returned u => exact ⟨u, rfl, hput _ he.1, he.2⟩
      | panicked c => exact he.elim
      | outgrown => exact absurd he (by rintro ⟨_, _, h⟩; exact h)
    case row row args => exact this.mono fun u w'' he => ⟨hput _ he.1, he.2⟩
    case defer d =>
      have h1 := congrArg Act.defers this.1
      have h2 : ∀ (b : Act) (x : Value), (b.put o.dst x).defers = b.defers := fun b x => by unfold Act.put; split <;> rfl
      rw [h2, h2] at h1
      exact absurd (congrArg List.length h1) (by simp)
  | halt x w' => cases x <;> simp only [Oper.upon] at this
theorem sU (h0 : isAl T o = false) (h1 : stTo T D.1 o = false) (hw : Region.wanted o (yielded ops a.tmps) = false) (h : wpS P ops w0 T D Q rest (a.put o.dst undef)) : wpS P ops w0 T D Q (o :: rest) a := sO undef h0 h1 (kU hw) h
theorem sW (v : Value) (h0 : isAl T o = false) (h1 : stTo T D.1 o = false) (hlt : (match o.dst with | some d => decide (d < a.tmps.size) | none => true) = true) (hw : Region.wanted o (yielded ops a.tmps) = true)
    (hv : ∀ w, Cls w0 w → ∀ K : Act → World → Prop, (∀ w', Only [] w w' → K (a.put o.dst v) w') → o.wp P a w K fun _ _ _ => False) (h : wpS P ops w0 T D Q rest (a.put o.dst v)) : wpS P ops w0 T D Q (o :: rest) a := sO v h0 h1 (kW v hlt hw hv) h
theorem sR {g : Nat} {ty t : TypeId} {cs : Array Value} {d : TypeDesc} (X : Operand) (hb : Blk w0 g t cs) (h0 : isAl T o = false) (h1 : stTo T D.1 o = false) (hw : Region.wanted o (yielded ops a.tmps) = true) (ho : o.op = .load ty X) (hx : a.eval X = .pointer (some ⟨g, 0, none⟩))
    (hu : P.underlying ty = some d) (hd : (match d with | .struct _ | .array _ _ => true | _ => false) = true) (hi : (P.info? ty).map (·.size) = some cs.size)
    (h : wpS P ops w0 T D Q rest (a.put o.dst (.agg cs))) : wpS P ops w0 T D Q (o :: rest) a := by
  refine sO (.agg cs) h0 h1 (.inl ⟨hw, fun w hC => ?_⟩) h
  unfold execOp
  simp only [ho, hx, Instr.loadAt, Instr.sureAddr, Sem.run_bind, Sem.run_pure, Result.andThen_ok, run_loadVar_row w g t ty cs (0, 0) d (hC.blk hb) hu hd hi]
  exact ⟨.inr rfl, Only.refl _ _⟩
theorem sC {v : Value} {f : FuncId} {args : Array Value} (hc : ∀ w, Cls w0 w → Calls P f args w fun e w' => e = .returned v ∧ Only [] w w') (h0 : isAl T o = false) (h1 : stTo T D.1 o = false) (hw : Region.wanted o (yielded ops a.tmps) = true) (hv : ∀ w, (execOp a.eval o).run P w = .ok (.enter f args) w)
    (h : wpS P ops w0 T D Q rest (a.put o.dst v)) : wpS P ops w0 T D Q (o :: rest) a :=
  sO v h0 h1 (.inl ⟨hw, fun w hC => by rw [hv w]; exact (hc w hC).mono fun e w' ⟨he, hC'⟩ => ⟨v, he, .inr rfl, hC'⟩⟩) h
theorem sN (h : Q a) : wpS P ops w0 T D Q [] a := h
end
end Go.Proofs.YtmjjdehicngffaaDoor
