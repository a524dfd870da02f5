/- A region that draws its order in which, behind operations that float, two operations may come up in either order (a load of a variable that the region's last store turns, and a call or new memory); behind both, a handed order. Plain lemmas, no condition. -/
import Derived.Test.YtmojlfgfaabegaaRegM
namespace Go.Proofs.Ytmojlfgfaabegaa
open Go.RowKit

section
variable {P : Program} {ops : Array Oper} {md : Region.Mode} {S : World → Prop}
/-- Operations that float, then K. -/
def wpF (P : Program) (ops : Array Oper) (S : World → Prop) (K : Act → World → Prop) : List Oper → Act → World → Prop
  | [], a, w => K a w
  | o :: r, a, w => ∃ v, YieldsIf P ops S o v a ∧ wpF P ops S K r (a.put o.dst v) w
/-- One operation alone, then K. -/
def wp1 (P : Program) (ops : Array Oper) (S : World → Prop) (K : Act → World → Prop) (o : Oper) (a : Act) (w : World) : Prop := wpList P ops (Nm fun a' w' => S w' ∧ K a' w') [o] a w
def pickF (l : List Oper) : List Nat → List Oper
  | [] => []
  | i :: r => match nth l i with
    | some o => o :: pickF l r
    | none => pickF l r
def ordF (md : Region.Mode) (ops : Array Oper) (K : Array Bool → Bool) : List Nat → Array Bool → Bool
  | [], listed => K listed
  | i :: r, listed => ((Region.ready md ops listed).contains i && Region.free md ops listed i) && ordF md ops K r (listed.setIfInBounds i true)
theorem anyH_of_F {l : List Oper} {Q : Exit → Act → World → Prop} {K : Act → World → Prop} {KB : Array Bool → Bool} (hs : Region.noSelect l.toArray = true) {m : Nat}
    (hK : ∀ listed a w fuel, KB listed = true → m ≤ fuel → S w → K a w → wpAnyH P md l.toArray (NoPanic Q) S fuel listed a w) :
    ∀ (pre : List Nat) (listed : Array Bool) (a : Act) (w : World) (fuel : Nat), S w → ordF md l.toArray KB pre listed = true → pre.length + m ≤ fuel → wpF P l.toArray S K (pickF l pre) a w → wpAnyH P md l.toArray (NoPanic Q) S fuel listed a w
  | [], listed, a, w, fuel, hS, hB, hl, h => hK listed a w fuel (by simpa [ordF] using hB) (by simpa using hl) hS (by simpa [pickF, wpF] using h)
  | i :: r, listed, a, w, 0, hS, hB, hl, h => by simp at hl
  | i :: r, listed, a, w, fuel + 1, hS, hB, hl, h => by
    simp only [ordF, Bool.and_eq_true] at hB
    cases ho : nth l i with
    | none =>
      rw [nth_eq] at ho
      have := hB.1.2
      unfold Region.free at this
      simp [ho] at this
    | some o =>
      simp only [pickF, ho, wpF] at h
      obtain ⟨v, hy, hr⟩ := h
      rw [nth_eq] at ho
      exact wpAnyH_take (by simpa using ho) hs hB.1.2 hB.1.1 (fun _ _ _ h => h) hy hS (anyH_of_F hs hK r _ _ _ fuel hS hB.2 (by simp at hl; omega) hr)
/-- One operation, out of those that may come up. -/
theorem op_of_1 {l : List Oper} {Q : Exit → Act → World → Prop} {K : Act → World → Prop} {o : Oper} {j : Nat} {a : Act} {w : World} {K' : Act → World → Prop} (ho : l[j]? = some o) (h : wp1 P l.toArray S K o a w) (hn : ∀ a' w', S w' → K a' w' → K' a' w') :
    wpOp P l.toArray (NoPanic Q) j (fun a' w' => S w' ∧ K' a' w') a w := by
  have hoj : l.toArray[j]? = some o := by simpa using ho
  unfold wpOp
  simp only [hoj]
  unfold wp1 wpList at h
  have hn' : ∀ a' w', wpList P l.toArray (Nm fun a' w' => S w' ∧ K a' w') [] a' w' → S w' ∧ K' a' w' := fun a' w' hh => ⟨hh.1, hn _ _ hh.1 hh.2⟩
  split
  · rename_i hw
    rw [if_pos hw] at h
    refine .inl (wp_nm (Oper.wp_mono hn' (h.resolve_right ?_)))
    rintro ⟨_, _, _, hf⟩
    exact hf
  · rename_i hw
    rw [if_neg hw] at h
    exact hn' _ _ h
/-- The two, then the rest. -/
def twoB (md : Region.Mode) (ops : Array Oper) (i j : Nat) (suf : List (Nat × Bool)) (listed : Array Bool) : Bool :=
  (Region.ready md ops listed == [i, j]) && ((Region.ready md ops (listed.setIfInBounds i true) == [j]) && ((Region.ready md ops (listed.setIfInBounds j true) == [i]) &&
    (ordB md ops suf ((listed.setIfInBounds i true).setIfInBounds j true) && ordB md ops suf ((listed.setIfInBounds j true).setIfInBounds i true))))
theorem anyH_of_two {l : List Oper} {Q : Exit → Act → World → Prop} (hs : Region.noSelect l.toArray = true) {i j : Nat} {oi oj : Oper} (hi : l[i]? = some oi) (hj : l[j]? = some oj) {suf : List (Nat × Bool)}
    (listed : Array Bool) (a : Act) (w : World) (fuel : Nat) (hB : twoB md l.toArray i j suf listed = true) (hf : suf.length + 2 ≤ fuel)
    (h : wp1 P l.toArray S (wp1 P l.toArray S (wpM P l.toArray S (fun a' w' => Q .normal a' w') (pickL l suf)) oj) oi a w ∧ wp1 P l.toArray S (wp1 P l.toArray S (wpM P l.toArray S (fun a' w' => Q .normal a' w') (pickL l suf)) oi) oj a w) :
    wpAnyH P md l.toArray (NoPanic Q) S fuel listed a w := by
  unfold twoB at hB
  simp only [Bool.and_eq_true, beq_iff_eq] at hB
  obtain ⟨h1, h2, h3, h4, h5⟩ := hB
  obtain ⟨fuel, rfl⟩ : ∃ f, fuel = f + 2 := ⟨fuel - 2, by omega⟩
  refine wpAnyH_all h1 (by simp) fun k hk => ?_
  simp only [List.mem_cons, List.not_mem_nil, or_false] at hk
  rcases hk with rfl | rfl
  · refine op_of_1 hi h.1 fun a' w' hS hh => ?_
    refine wpAnyH_all h2 (by simp) fun m hm => ?_
    obtain rfl : m = j := by simpa using hm
    exact op_of_1 hj hh fun a2 w2 hS2 hh2 => anyH_of_M hs suf _ _ _ fuel hS2 h4 (by omega) hh2
  · refine op_of_1 hj h.2 fun a' w' hS hh => ?_
    refine wpAnyH_all h3 (by simp) fun m hm => ?_
    obtain rfl : m = i := by simpa using hm
    exact op_of_1 hi hh fun a2 w2 hS2 hh2 => anyH_of_M hs suf _ _ _ fuel hS2 h5 (by omega) hh2
/-- THE BEGINNING: pre floats, i and j come up in either order, suf behind both. -/
theorem rgnP {id : Nat} {Q : Exit → Act → World → Prop} {a : Act} {w : World} {l : List Oper} (S : World → Prop) (pre : List Nat) (i j : Nat) (suf : List (Nat × Bool)) (oi oj : Oper) (hm : P.follows .mixedOrders = true)
    (hB : (Region.noSelect l.toArray && (ordF .any l.toArray (twoB .any l.toArray i j suf) pre (Array.replicate l.toArray.size false) && pre.length + (suf.length + 2) == l.length)) = true)
    (hi : nth l i = some oi) (hj : nth l j = some oj) (hS : S w.drew)
    (h : wpF P l.toArray S (fun a' w' => wp1 P l.toArray S (wp1 P l.toArray S (wpM P l.toArray S (fun a' w' => Q .normal a' w') (pickL l suf)) oj) oi a' w' ∧ wp1 P l.toArray S (wp1 P l.toArray S (wpM P l.toArray S (fun a' w' => Q .normal a' w') (pickL l suf)) oi) oj a' w') (pickF l pre) a w.drew) :
    (Code.region id l.toArray true).wp P Q a w := by
  simp only [Bool.and_eq_true, beq_iff_eq] at hB
  rw [nth_eq] at hi hj
  refine wp_region_noPanic (wp_region_held (S := S) hm ?_)
  exact anyH_of_F (KB := twoB .any l.toArray i j suf) hB.1 (m := suf.length + 2) (fun listed a w fuel hK hf _ hh => anyH_of_two hB.1 hi hj listed a w fuel hK hf hh) pre _ a _ _ hS hB.2.1 (by rw [hB.2.2]; simp) h
end
section
variable {P : Program} {ops : Array Oper} {S : World → Prop} {K : Act → World → Prop} {r : List Oper} {o : Oper} {a : Act} {w : World}
theorem fN (h : K a w) : wpF P ops S K [] a w := h
theorem fU (hw : Region.wanted o (yielded ops a.tmps) = false) (h : wpF P ops S K r (a.put o.dst undef) w) : wpF P ops S K (o :: r) a w := ⟨undef, .inr ⟨hw, rfl⟩, h⟩
/-- One that floats: by the walk of wpM's own step. -/
theorem fM {v : Value} (hy : YieldsIf P ops S o v a) (h : wpF P ops S K r (a.put o.dst v) w) : wpF P ops S K (o :: r) a w := ⟨v, hy, h⟩
/-- Out of RegM's steps (with no rest). -/
theorem fW (h : wpM P ops S (fun a' w' => wpF P ops S K r a' w') [(o, true)] a w) : wpF P ops S K (o :: r) a w := h
theorem p1 (h : wpList P ops (Nm fun a' w' => S w' ∧ K a' w') [o] a w) : wp1 P ops S K o a w := h
theorem p1S {a' : Act} {w' : World} (h1 : S w') (h : K a' w') : Nm (fun a' w' => S w' ∧ K a' w') .normal a' w' := ⟨h1, h⟩
end
end Go.Proofs.Ytmojlfgfaabegaa
