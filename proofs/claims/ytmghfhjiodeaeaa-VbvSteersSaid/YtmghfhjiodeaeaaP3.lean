/- Stuffing: lengths, and the contract with the result under names. -/
import Derived.Test.YtmghfhjiodeaeaaU9
namespace Go.Proofs.Ytmghfhjiodeaeaa

theorem pads_len {s : Sq} : ∀ (us : List Un) {f : Int} {p : List Int × Int}, pads s us f = some p → p.1.length = us.length
  | [], f, p, h => by simp only [pads, Option.some.injEq] at h; subst h; rfl
  | x :: l, f, p, h => by
    simp only [pads] at h
    split at h
    · cases h
    · cases hl : pads s l (nxt s x f l.isEmpty) with
      | none => rw [hl] at h; cases h
      | some q =>
        rw [hl] at h
        simp only [Option.map_some, Option.some.injEq] at h
        subst h
        simp [pads_len l hl]
theorem padR_case (s : Sq) (us : List Un) (st : Int) : (padR s us st = ([], 1) ∧ prp s us st = false) ∨ (prp s us st = true ∧ padR s us st = ([], 9) ∧ pads s us st = none) ∨ (prp s us st = true ∧ ∃ p, padR s us st = (p.1, 0) ∧ pads s us st = some p ∧ p.1.length = us.length) := by
  cases h : prp s us st with
  | false => exact .inl ⟨padR_bad h, rfl⟩
  | true =>
    cases hp : pads s us st with
    | none => exact .inr (.inl ⟨rfl, padR_none h hp, rfl⟩)
    | some p => exact .inr (.inr ⟨rfl, p, padR_some h hp, rfl, pads_len us hp⟩)
theorem padR_len {s : Sq} {us : List Un} {st : Int} {ns : List Int} {r : Int} (h : padR s us st = (ns, r)) : ns.length ≤ 256 ∧ (r = 0 → ns.length = us.length) := by
  rcases padR_case s us st with ⟨e, _⟩ | ⟨_, e, _⟩ | ⟨hp, p, e, _, hl⟩
  all_goals rw [e] at h
  · obtain ⟨rfl, rfl⟩ := Prod.mk.inj h; simp
  · obtain ⟨rfl, rfl⟩ := Prod.mk.inj h; simp
  · obtain ⟨rfl, rfl⟩ := Prod.mk.inj h
    have := (prp_true hp).2.2.2.1
    exact ⟨by omega, fun _ => hl⟩
theorem PadC.to {s : Sq} {us : List Un} {st : Int} {w w' : World} {e : Ending} {ns : List Int} {r : Int} (h : padR s us st = (ns, r)) (hc : PadC s us st w e w') :
    ∃ A c, e = .returned (.tuple #[.slice A ns.length c, .int .i64 r]) ∧ Reads w' A 1 ns.length (iV ns) ∧ Only [] w w' := by
  unfold PadC at hc
  rwa [h] at hc
theorem Reads.int {w : World} {A : Option Addr} {ns : List Int} {k : Nat} {x : Int} (h : Reads w A 1 ns.length (iV ns)) (hk : ns[k]? = some x) : ∃ b off, A = some ⟨b, off, none⟩ ∧ w.cell? ⟨b, off + k, none⟩ = some (.int .i64 x) := by
  have hlt : k < ns.length := (List.getElem?_eq_some_iff.1 hk).1
  obtain ⟨b, off, rfl, hc⟩ := h.plain (by omega) (by omega)
  exact ⟨b, off, rfl, hc _ _ (iV_get hk)⟩
end Go.Proofs.Ytmghfhjiodeaeaa
