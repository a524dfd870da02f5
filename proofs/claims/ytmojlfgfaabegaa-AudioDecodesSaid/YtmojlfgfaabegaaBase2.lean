/- More laws for memory: make as a step of a region that draws. Plain lemmas, no condition. -/
import Derived.Test.YtmojlfgfaabegaaBase
namespace Go.Proofs.Ytmojlfgfaabegaa
open Go.RowKit
section
variable {P : Program} (w : World)
/-- the same as a step of a region that draws its order -/
theorem step_mk {ops : Array Oper} {o : Oper} {a : Act} {K : Act → World → Prop} {Q : Exit → Act → World → Prop} {E : Prop}
    (hg : o.guard = none) (l c : Operand) (t : TypeId) (hop : o.op = Op.makeSlice t l c)
    (e : TypeId) (i : TypeInfo) (z : Value) (h1 : P.underlying t = some (.slice e)) (h2 : P.info? e = some i) (h3 : i.zero = some z) (h4 : i.size = 1) (hz : z.cells = #[z])
    (kl kc : IntKind) (L C : Int) (n : Nat) (hl : a.eval l = .int kl L) (hc : a.eval c = .int kc C) (hL : L = (n : Int)) (hC : C = (n : Int)) (b2 : i.bytes * n ≤ 281474976710656) (b3 : n ≤ maxLen)
    (hK : ∀ w', Blk w' w.heap.size e (List.replicate n z).toArray → Only [] w w' → w'.heap.size = w.heap.size + 1 → K (a.put o.dst (.slice (some ⟨w.heap.size, 0, none⟩) n n)) w') :
    if Region.wanted o (yielded ops a.tmps) = true then Oper.wp P o a w K Q else E := by
  have hw : Region.wanted o (yielded ops a.tmps) = true := by simp [Region.wanted, hg]
  rw [if_pos hw]
  subst hL
  subst hC
  have b2' : (i.bytes : Int) * (n : Int) ≤ 281474976710656 := by
    have h : ((i.bytes * n : Nat) : Int) ≤ 281474976710656 := by omega
    rwa [Int.natCast_mul] at h
  have hrun := run_make (P := P) w t e i z h1 h2 h3 kl kc (n : Int) (n : Int) (by omega) (by omega) b2' (by simp only [maxLen] at b3; omega)
  rw [h4, Int.toNat_natCast, madeCells_one z hz] at hrun
  unfold Oper.wp
  simp only [execOp, hop, hl, hc, hrun, Result.andThen, Sem.run_bind, Sem.run_pure]
  exact hK _ (Blk.new _ _ _) ((Only.refl _ _).alloc _) (by simp)
theorem own_of_blk {w : World} {g : Nat} {e : TypeId} {xs : List Value} {n : Nat} (h : Blk w g e xs.toArray) (hn : xs.length = n) (hm : n ≤ maxLen) : w.ownsRow 0 e 1 (.slice (some ⟨g, 0, none⟩) n n) n xs :=
  ⟨by omega, .inr ⟨g, n, xs.toArray, rfl, Nat.zero_le _, h, Nat.le_refl _, hm, by simpa using hn, by rw [Nat.mul_one, ← hn]; simp⟩⟩

end
end Go.Proofs.Ytmojlfgfaabegaa
