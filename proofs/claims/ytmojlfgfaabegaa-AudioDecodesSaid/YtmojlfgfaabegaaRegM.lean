/- A region that draws its order, walked in an order that is handed: operations that float (a value, in every world of a class, nothing changes) and, between them, operations that come up alone (calls, new memory, stores), each from the world at hand. Plain lemmas, no condition. -/
import Derived.Test.YtmojlfgfaabegaaReg
import Derived.OrdersHeld
import Derived.Deep.RegionHeld3
namespace Go.Proofs.Ytmojlfgfaabegaa
open Go.RowKit

/-- Only the normal way out. -/
def Nm (K : Act → World → Prop) : Exit → Act → World → Prop
  | .normal, a, w => K a w
  | _, _, _ => False
/-- The walk. -/
def wpM (P : Program) (ops : Array Oper) (S : World → Prop) (Q : Act → World → Prop) : List (Oper × Bool) → Act → World → Prop
  | [], a, w => Q a w
  | (o, true) :: r, a, w => ∃ v, YieldsIf P ops S o v a ∧ wpM P ops S Q r (a.put o.dst v) w
  | (o, false) :: r, a, w => wpList P ops (Nm fun a' w' => S w' ∧ wpM P ops S Q r a' w') [o] a w
/-- The order serves. -/
def ordB (md : Region.Mode) (ops : Array Oper) : List (Nat × Bool) → Array Bool → Bool
  | [], listed => (Region.ready md ops listed).isEmpty
  | (i, fl) :: r, listed => (if fl then (Region.ready md ops listed).contains i && Region.free md ops listed i else Region.ready md ops listed == [i]) && ordB md ops r (listed.setIfInBounds i true)
def nth : List Oper → Nat → Option Oper
  | [], _ => none
  | o :: _, 0 => some o
  | _ :: l, n + 1 => nth l n
theorem nth_eq : ∀ (l : List Oper) (n : Nat), nth l n = l[n]?
  | [], n => by simp [nth]
  | o :: l, 0 => by simp [nth]
  | o :: l, n + 1 => by simp [nth, nth_eq l n]
/-- The operations of an order. -/
def pickL (l : List Oper) : List (Nat × Bool) → List (Oper × Bool)
  | [] => []
  | p :: r => match nth l p.1 with
    | some o => (o, p.2) :: pickL l r
    | none => pickL l r
section
variable {P : Program} {ops : Array Oper} {md : Region.Mode} {S : World → Prop}
theorem wp_nm {o : Oper} {a : Act} {w : World} {K K' : Act → World → Prop} {Q : Exit → Act → World → Prop} (h : o.wp P a w K (Nm K')) : o.wp P a w K Q := by
  have hl : ¬ LetsOut (Nm K') := fun ⟨_, _, h⟩ => h
  unfold Oper.wp at *
  generalize (execOp a.eval o).run P w = r at *
  cases r with
  | ok n w' =>
    cases n <;> simp only [Oper.upon] at h ⊢ <;> try exact h
    case enter f args =>
      refine Calls.mono h fun e w'' he => ?_
      cases e with
      | returned u => exact he
      | panicked c => exact (he : False).elim
      | outgrown => exact (hl he).elim
  | halt x w' => cases x <;> simp only [Oper.upon] at h ⊢ <;> exact (h : False).elim
theorem anyH_of_M {l : List Oper} {Q : Exit → Act → World → Prop} (hs : Region.noSelect l.toArray = true) : ∀ (ord : List (Nat × Bool)) (listed : Array Bool) (a : Act) (w : World) (fuel : Nat),
    S w → ordB md l.toArray ord listed = true → ord.length ≤ fuel → wpM P l.toArray S (fun a' w' => Q .normal a' w') (pickL l ord) a w → wpAnyH P md l.toArray (NoPanic Q) S fuel listed a w
  | [], listed, a, w, fuel, _, hB, _, h => wpAnyH_done (by simpa [ordB] using hB) (NoPanic.normal h) fuel
  | (i, fl) :: r, listed, a, w, 0, hS, hB, hl, h => by simp at hl
  | (i, true) :: r, listed, a, w, fuel + 1, hS, hB, hl, h => by
    simp only [ordB, if_true, Bool.and_eq_true] at hB
    cases ho : nth l i with
    | none =>
      rw [nth_eq] at ho
      have := hB.1.2
      unfold Region.free at this
      simp [ho] at this
    | some o =>
      simp only [pickL, ho, wpM] at h
      obtain ⟨v, hy, hr⟩ := h
      rw [nth_eq] at ho
      exact wpAnyH_take (by simpa using ho) hs hB.1.2 hB.1.1 (fun _ _ _ h => h) hy hS (anyH_of_M hs r _ _ _ fuel hS hB.2 (by simpa using hl) hr)
  | (i, false) :: r, listed, a, w, fuel + 1, hS, hB, hl, h => by
    simp only [ordB, Bool.false_eq_true, if_false, Bool.and_eq_true, beq_iff_eq] at hB
    cases ho : nth l i with
    | none =>
      rw [nth_eq] at ho
      have hm : i ∈ Region.ready md l.toArray listed := by rw [hB.1]; simp
      obtain ⟨_, oi, hoi, _⟩ := mem_ready.1 hm
      simp [ho] at hoi
    | some o =>
      simp only [pickL, ho, wpM] at h
      rw [nth_eq] at ho
      refine wpAnyH_all hB.1 (by simp) fun j hj => ?_
      obtain rfl : j = i := by simpa using hj
      have hoj : l.toArray[j]? = some o := by simpa using ho
      unfold wpOp
      simp only [hoj]
      unfold wpList at h
      have hn : ∀ a' w', wpList P l.toArray (Nm fun a' w' => S w' ∧ wpM P l.toArray S (fun a' w' => Q .normal a' w') (pickL l r) a' w') [] a' w' → S w' ∧ wpAnyH P md l.toArray (NoPanic Q) S fuel (listed.setIfInBounds j true) a' w' := fun a' w' hh =>
        ⟨hh.1, anyH_of_M hs r _ _ _ fuel hh.1 hB.2 (by simpa using hl) hh.2⟩
      split
      · rename_i hw
        rw [if_pos hw] at h
        refine .inl (wp_nm (Oper.wp_mono hn (h.resolve_right ?_)))
        rintro ⟨_, _, _, hf⟩
        exact hf
      · rename_i hw
        rw [if_neg hw] at h
        exact hn _ _ h
/-- THE BEGINNING. -/
theorem rgnM {id : Nat} {Q : Exit → Act → World → Prop} {a : Act} {w : World} {l : List Oper} (S : World → Prop) (ord : List (Nat × Bool)) (hm : P.follows .mixedOrders = true)
    (hB : (Region.noSelect l.toArray && (ordB .any l.toArray ord (Array.replicate l.toArray.size false) && ord.length == l.length)) = true) (hS : S w.drew)
    (h : wpM P l.toArray S (fun a' w' => Q .normal a' w') (pickL l ord) a w.drew) : (Code.region id l.toArray true).wp P Q a w := by
  simp only [Bool.and_eq_true, beq_iff_eq] at hB
  refine wp_region_noPanic (wp_region_held (S := S) hm ?_)
  exact anyH_of_M hB.1 ord _ a _ _ hS hB.2.1 (by rw [hB.2.2]; simp) h
end
/-- An operation that comes to a value, if it comes to its end. -/
def plainV (o : Oper) : Bool := match o.op with
  | .move _ | .assign _ | .pick _ _ _ | .build _ _ | .load _ _ | .binOp _ _ _ _ _ | .unOp _ _ _ | .convert _ _ _ | .slice _ _ _ _ _ | .fieldAddr _ _ _ | .field _ _ _ | .indexAddr _ _ _ | .index _ _ _ | .extract _ _ => true
  | .call c => match c.callee with | .builtin .len => true | .builtin .cap => true | .builtin .max => true | .builtin .min => true | _ => false
  | _ => false
def isV : Result Next → Bool
  | .ok (.value _) _ => true
  | .ok _ _ => false
  | .halt _ _ => true
theorem isV_v {P : Program} {w : World} (s : Sem Value) : isV ((do pure (.value (← s)) : Sem Next).run P w) = true := by
  rw [Sem.run_bind]
  cases s.run P w <;> rfl
theorem isV_a (x : Result Value) : isV (x.andThen fun a w' => Result.ok (Next.value a) w') = true := by cases x <;> rfl
theorem plain_run {P : Program} {ρ : Operand → Value} {o : Oper} {w : World} (h : plainV o = true) : isV ((execOp ρ o).run P w) = true := by
  unfold plainV at h
  unfold execOp
  split at h
  case h_1 x ho => simp only [ho]; rfl
  case h_2 x ho => simp only [ho]; rfl
  case h_3 c x y ho => simp only [ho]; rw [Sem.run_bind]; cases (asBool (ρ c)).run P w <;> rfl
  case h_15 c ho =>
    split at h <;> (rename_i hc; simp only [ho, resolve, hc]; simp only [Sem.run_bind, Sem.run_pure, Result.andThen_ok, invoke, builtin]; first | exact isV_a _ | cases h)
  case h_16 => cases h
  all_goals (rename_i ho; simp only [ho]; exact isV_v _)
section
variable {P : Program} {ops : Array Oper} {S : World → Prop} {Q : Act → World → Prop} {r : List (Oper × Bool)} {o : Oper} {a : Act} {w : World}
/-- Not wanted. -/
theorem mU (hw : Region.wanted o (yielded ops a.tmps) = false) (h : wpM P ops S Q r (a.put o.dst undef) w) : wpM P ops S Q ((o, true) :: r) a w := ⟨undef, .inr ⟨hw, rfl⟩, h⟩
/-- One operation that floats, as the walk meets it. -/
theorem mW (v : Value) (hlt : (match o.dst with | some d => decide (d < a.tmps.size) | none => false) = true) (hw : Region.wanted o (yielded ops a.tmps) = true)
    (hv : ∀ w, S w → ∀ K : Act → World → Prop, K (a.put o.dst v) w → o.wp P a w K fun _ _ _ => False) (hn : plainV o = true)
    (h : wpM P ops S Q r (a.put o.dst v) w) : wpM P ops S Q ((o, true) :: r) a w := by
  refine ⟨v, .inl ⟨hw, fun w hS => ?_⟩, h⟩
  have h1 := hv w hS (fun a' w' => a' = a.put o.dst v ∧ w' = w) ⟨rfl, rfl⟩
  have h2 := plain_run (P := P) (ρ := a.eval) (w := w) hn
  unfold Oper.wp at h1
  generalize (execOp a.eval o).run P w = r at *
  unfold isV at h2
  split at h2
  · rename_i u w'
    simp only [Oper.upon] at h1
    obtain ⟨h3, rfl⟩ := h1
    cases hd : o.dst with
    | none => rw [hd] at hlt; cases hlt
    | some d =>
      rw [hd] at h3 hlt
      have hlt : d < a.tmps.size := by simpa using hlt
      have : (a.put (some d) u).tmps[d]? = (a.put (some d) v).tmps[d]? := by rw [h3]
      have : u = v := by simpa [Act.put, hlt] using this
      rw [this]
  · cases h2
  · rename_i x w'
    cases x <;> simp only [Oper.upon] at h1
/-- A whole array or struct out of its block. -/
theorem mR {g : Nat} {ty t : TypeId} {cs : Array Value} {d : TypeDesc} (X : Operand) (hw : Region.wanted o (yielded ops a.tmps) = true) (ho : o.op = .load ty X) (hx : a.eval X = .pointer (some ⟨g, 0, none⟩)) (hc : ∀ w, S w → Blk w g t cs)
    (hu : P.underlying ty = some d) (hd : (match d with | .struct _ | .array _ _ => true | _ => false) = true) (hi : (P.info? ty).map (·.size) = some cs.size)
    (h : wpM P ops S Q r (a.put o.dst (.agg cs)) w) : wpM P ops S Q ((o, true) :: r) a w := by
  refine ⟨.agg cs, .inl ⟨hw, fun w hS => ?_⟩, h⟩
  unfold execOp
  simp only [ho, hx, Instr.loadAt, Instr.sureAddr, Sem.run_bind, Sem.run_pure, Result.andThen_ok, run_loadVar_row w g t ty cs (0, 0) d (hc w hS) hu hd hi]
/-- An operation that comes up alone. -/
theorem mX (h : wpList P ops (Nm fun a' w' => S w' ∧ wpM P ops S Q r a' w') [o] a w) : wpM P ops S Q ((o, false) :: r) a w := h
theorem mS {a' : Act} {w' : World} (h1 : S w') (h : wpM P ops S Q r a' w') : Nm (fun a' w' => S w' ∧ wpM P ops S Q r a' w') .normal a' w' := ⟨h1, h⟩
/-- A call, by its contract. -/
theorem mC {f : FuncId} {args : Array Value} {R : Ending → World → Prop} (hc : Calls P f args w R) (hw : Region.wanted o (yielded ops a.tmps) = true) (hv : ∀ w, (execOp a.eval o).run P w = .ok (.enter f args) w)
    (h : ∀ e w', R e w' → ∃ u, e = .returned u ∧ S w' ∧ wpM P ops S Q r (a.put o.dst u) w') : wpM P ops S Q ((o, false) :: r) a w := by
  refine mX ?_
  unfold wpList
  rw [if_pos hw]
  refine .inl ?_
  unfold Oper.wp
  rw [hv w]
  refine hc.mono fun e w' he => ?_
  obtain ⟨u, rfl, h1, h2⟩ := h e w' he
  exact ⟨h1, h2⟩
/-- The region's end. -/
theorem mN (h : Q a w) : wpM P ops S Q [] a w := h
end
end Go.Proofs.Ytmojlfgfaabegaa
