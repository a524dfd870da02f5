/- A parameter of the type of sound, opened. -/
import Derived.Test.YtmojlfgfaabegaaRow
import Derived.Test.YtmojlfgfaabegaaA4
namespace Go.Proofs.Ytmojlfgfaabegaa
open Go.ChangeShapes Go.WideShapes Go.ChangeAt Go.RowKit Go.Deep

section
variable {H : Type} {enc : TypeId × Value → H} {P : Program}
theorem open_intsC {t e : TypeId} {k : IntKind} {W : World} {fuel : Nat} {cs : List Value} {x : DataW H × List MemPlace} (ht : P.underlying t = some (.slice e)) (he : P.underlying e = some (.int k)) (hc : P.cellsOf e = 1)
    (hf : DataW.trod enc P W 0 (fun _ => true) true fuel t cs = some x) :
    ∃ A len cap zs, cs = [.slice A len cap] ∧ List.length zs = len ∧ len ≤ cap ∧ cap ≤ maxLen ∧ Reads W A 1 len (zs.map (Value.int k)) ∧ ∀ z ∈ zs, (Lit.int k z).wf = true := by
  rcases open_ints ht he hc hf with ⟨hcs, _⟩ | ⟨a, len', cap', zs, hcs, _, hl, hm, hz, _, hcell, hwz⟩
  · exact ⟨none, 0, 0, [], hcs, rfl, Nat.le_refl _, Nat.zero_le _, Reads.none_, by simp⟩
  · simp only [if_true] at hz
    refine ⟨some a, len', cap', zs.take len', hcs, by simp; omega, hl, hm, ⟨by simp; omega, fun _ => ⟨a, rfl, fun j u hj => ?_⟩⟩, fun z hz' => hwz z (List.mem_of_mem_take hz')⟩
    have hjl : j < len' := by
      rcases Nat.lt_or_ge j len' with h | h
      · exact h
      · rw [List.getElem?_eq_none (by simp; omega)] at hj; cases hj
    rw [hcell j (by omega)]
    simp only [List.getElem?_map, List.getElem?_take_of_lt hjl] at hj
    rw [List.getElem?_eq_getElem (by omega)] at hj
    simp only [Option.map_some, Option.some.injEq] at hj
    rw [← hj, List.getD_eq_getElem?_getD, List.getElem?_eq_getElem (by omega)]
    rfl
end
section
variable {H : Type} {enc : TypeId × Value → H}
theorem open_pcmR {r : Reach} {b0 : Nat} {W : World} {v : Value} {d : DataW H} {ps : List MemPlace}
    (hval : Value.okWide Try.prog W r b0 28 v) (hd : DataW.Trod enc Try.prog W 0 (fun _ => true) true 28 v d ps) :
    ∃ A len cap hs ls, v = .slice A len cap ∧ List.length ls = len ∧ len ≤ cap ∧ cap ≤ maxLen ∧ PcmIs W A hs ls ∧ ∀ l ∈ ls, List.length l ≤ maxLen ∧ ∀ z ∈ l, -32768 ≤ z ∧ z ≤ 32767 := by
  obtain ⟨a0, len, cap, rfl⟩ := okWide_slice Try.underlying28 hval
  obtain ⟨fuel, hf⟩ := hd
  rcases open_slice Try.underlying28 hf with ⟨hcs, _⟩ | ⟨a, len', cap', m, n, D, Pl, hcs, _, hl, hm, hmm, _, hi⟩
  · simp [Value.cells] at hcs
    obtain ⟨rfl, rfl, rfl⟩ := hcs
    exact ⟨none, 0, 0, [], [], rfl, rfl, Nat.le_refl _, Nat.zero_le _, ⟨rfl, Reads.none_, fun i h l h1 => (by simp at h1), fun i h l h1 => (by simp at h1)⟩, by simp⟩
  · simp [Value.cells] at hcs
    obtain ⟨rfl, rfl, rfl⟩ := hcs
    simp only [if_true] at hmm
    have hC : Try.prog.cellsOf 39 = 1 := by kernel_rfl
    obtain ⟨xs, hxl, hq⟩ := list_of (α := (Option Addr × Nat) × List Int) (Q := fun i x => W.cell? (a.add i) = some (.slice x.1.1 x.2.length x.1.2) ∧ x.2.length ≤ x.1.2 ∧ x.1.2 ≤ maxLen ∧ Reads W x.1.1 1 x.2.length (sV x.2) ∧ ∀ z ∈ x.2, -32768 ≤ z ∧ z ≤ 32767) len (fun i hlt => by
      obtain ⟨cs', hcc, ht'⟩ := hi i (by omega)
      rw [hC, Nat.mul_one] at hcc
      obtain ⟨B, bl, bc, zs, rfl, h1, h2, h3, h4, h5⟩ := open_intsC Try.underlying39 Try.underlying45 (by kernel_rfl) ht'
      obtain ⟨_, _, hat⟩ := World.cells?_some hcc
      have h0 := hat 0 (by omega)
      subst h1
      refine ⟨((B, bc), zs), ?_, h2, h3, h4, fun z hz => ?_⟩
      · simpa [Addr.add] using h0
      · simpa [Lit.wf, IntKind.min, IntKind.max, IntKind.signed, IntKind.bits] using h5 z hz)
    refine ⟨some a, len, cap, xs.map (·.1), xs.map (·.2), rfl, by simpa using hxl, hl, hm, ⟨by simp, ?_, fun i h l h1 h2 => ?_, fun i h l h1 h2 => ?_⟩, fun l hl' => ?_⟩
    · refine ⟨by simp [rowsV], fun _ => ⟨a, rfl, fun j u hj => ?_⟩⟩
      unfold rowsV at hj
      rw [List.getElem?_zipWith, List.getElem?_map, List.getElem?_map] at hj
      cases hx : xs[j]? with
      | none => rw [hx] at hj; cases hj
      | some x => rw [hx] at hj; simp at hj; subst hj; exact (hq j x hx).1
    · rw [List.getElem?_map] at h1 h2
      cases hx : xs[i]? with
      | none => rw [hx] at h1; cases h1
      | some x => rw [hx] at h1 h2; simp at h1 h2; subst h1 h2; exact (hq i x hx).2.2.2.1
    · rw [List.getElem?_map] at h1 h2
      cases hx : xs[i]? with
      | none => rw [hx] at h1; cases h1
      | some x => rw [hx] at h1 h2; simp at h1 h2; subst h1 h2; exact (hq i x hx).2.1
    · rw [List.mem_map] at hl'
      obtain ⟨x, hx, rfl⟩ := hl'
      obtain ⟨i, hi'⟩ := List.getElem?_of_mem hx
      have := hq i x hi'
      exact ⟨Nat.le_trans this.2.1 this.2.2.1, this.2.2.2.2⟩
end
end Go.Proofs.Ytmojlfgfaabegaa
