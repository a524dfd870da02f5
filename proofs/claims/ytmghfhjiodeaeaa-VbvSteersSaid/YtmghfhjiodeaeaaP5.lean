/- The fullness at the end with stuffing: plain laws of Least and More. -/
import Derived.Test.YtmghfhjiodeaeaaU12
namespace Go.Proofs.Ytmghfhjiodeaeaa

def endR (s : Sq) (us : List Un) (st : Int) : Int × Int :=
  if prp s us st = true then (match pads s us st with | some p => (p.2, 0) | none => (0, 9)) else (0, 1)
section
variable {s : Sq} {us : List Un} {st : Int}
theorem endR_bad (h : prp s us st = false) : endR s us st = (0, 1) := by unfold endR; rw [if_neg (by simp [h])]
theorem endR_none (h : prp s us st = true) (hp : pads s us st = none) : endR s us st = (0, 9) := by unfold endR; rw [if_pos h, hp]
theorem endR_some {p : List Int × Int} (h : prp s us st = true) (hp : pads s us st = some p) : endR s us st = (p.2, 0) := by unfold endR; rw [if_pos h, hp]
end
theorem end_step {s : Sq} (hk : Ok s) {us : List Un} {k : Nat} {x : Un} {f fe : Int} {ns : List Int} (hx : us[k]? = some x) (hu : uok x = true) (hl : ns.length = us.length) (h : pads s (us.drop k) f = some (ns.drop k, fe)) (hf : f ≤ cap s) :
    ∃ q nx, ns[k]? = some q ∧ cst s x.c ≤ f ∧ 0 ≤ q ∧ q ≤ 35184372088832 ∧ 0 ≤ cst s 8 * q ∧ cst s 8 * q ≤ 35184372088832 ∧ f - cst s x.c - cst s 8 * q + arl s x.d = nx ∧ pads s (us.drop (k + 1)) nx = some (ns.drop (k + 1), fe) ∧ -17592186044416 ≤ nx ∧ nx ≤ 35184372088832 ∧ (k + 1 < us.length → nx ≤ cap s) := by
  have hlt : k < us.length := (List.getElem?_eq_some_iff.1 hx).1
  have hu' := uok_true hu
  have hcap := cap_bd hk
  have h8 := c8_bd hk
  have hcb := cst_bd hk (b := x.c) (by omega)
  have hab := arl_bd hk (f := x.d) (by omega)
  rw [pads_drop hx] at h
  split at h
  · cases h
  · have hfc : cst s x.c ≤ f := by omega
    cases hp : pads s (us.drop (k + 1)) (nxt s x f (decide (us.length ≤ k + 1))) with
    | none => rw [hp] at h; cases h
    | some p =>
      rw [hp] at h
      simp only [Option.map_some, Option.some.injEq, Prod.mk.injEq] at h
      obtain ⟨h1, h2⟩ := h
      have hkn : k < ns.length := by omega
      rw [List.drop_eq_getElem_cons hkn] at h1
      injection h1 with h3 h4
      refine ⟨pn s (aft s x f) (decide (us.length ≤ k + 1)), nxt s x f (decide (us.length ≤ k + 1)), by rw [List.getElem?_eq_getElem hkn, ← h3], hfc, ?_⟩
      have hp' : pads s (us.drop (k + 1)) (nxt s x f (decide (us.length ≤ k + 1))) = some (ns.drop (k + 1), fe) := by rw [hp, ← h2, ← h4]
      have haf : aft s x f = f - cst s x.c + arl s x.d := rfl
      by_cases hla : us.length ≤ k + 1
      · rw [decide_eq_true hla] at hp' ⊢
        rw [pn_zero (.inr rfl), nxt_last] at *
        rw [Int.mul_zero]
        exact ⟨by omega, by omega, by omega, by omega, by omega, hp', by omega, by omega, fun h => by omega⟩
      · rw [decide_eq_false hla] at hp' ⊢
        have hnb := nxt_bd hk (x := x) (f := f)
        have hnx : nxt s x f false = aft s x f - cst s 8 * pn s (aft s x f) false := rfl
        by_cases hov : 0 < aft s x f - cap s
        · have hpn := pn_bd hk hov
          exact ⟨by omega, by omega, by omega, by omega, by omega, hp', by omega, by omega, fun _ => hnb⟩
        · rw [pn_zero (.inl (by omega)), nxt_low (by omega)] at *
          rw [Int.mul_zero]
          exact ⟨by omega, by omega, by omega, by omega, by omega, hp', by omega, by omega, fun _ => by omega⟩
theorem pads_cons {s : Sq} {x : Un} {l : List Un} {f : Int} {p : List Int × Int} (h : pads s (x :: l) f = some p) : cst s x.c ≤ f ∧ ∃ q, pads s l (nxt s x f l.isEmpty) = some q ∧ p = (pn s (aft s x f) l.isEmpty :: q.1, q.2) := by
  simp only [pads] at h
  split at h
  · cases h
  · cases hp : pads s l (nxt s x f l.isEmpty) with
    | none => rw [hp] at h; cases h
    | some q =>
      rw [hp] at h
      simp only [Option.map_some, Option.some.injEq] at h
      exact ⟨by omega, q, rfl, h.symm⟩
theorem nxt_ge {s : Sq} (hk : Ok s) {x : Un} {f : Int} {l : Bool} : nxt s x f l = aft s x f ∨ (cap s < aft s x f ∧ nxt s x f l ≤ cap s ∧ most s < nxt s x f l) := by
  cases l with
  | true => exact .inl nxt_last
  | false =>
    by_cases hov : 0 < aft s x f - cap s
    · have hpn := pn_bd hk hov
      have hnx : nxt s x f false = aft s x f - cst s 8 * pn s (aft s x f) false := rfl
      have hm : most s = cap s - cst s 8 := rfl
      exact .inr ⟨by omega, by omega, by omega⟩
    · exact .inl (nxt_low (by omega))
theorem least {s : Sq} (hk : Ok s) {wt : Int} : ∀ (us : List Un) (n f : Int), nd s us wt = some n → (n ≤ f ↔ ∃ p, pads s us f = some p ∧ wt ≤ p.2)
  | [], n, f, h => by
    simp only [nd] at h
    split at h
    · simp only [Option.some.injEq] at h
      subst h
      exact ⟨fun h => ⟨_, rfl, h⟩, fun ⟨p, hp, hw⟩ => by simp only [pads, Option.some.injEq] at hp; subst hp; exact hw⟩
    · cases h
  | x :: l, n, f, h => by
    simp only [nd] at h
    cases hl : nd s l wt with
    | none => rw [hl] at h; cases h
    | some m =>
      rw [hl] at h
      simp only [Option.bind_some] at h
      split at h
      · simp only [Option.some.injEq] at h
        have hm := nd_le l hl
        have hn : n = cst s x.c + max 0 (m - arl s x.d) := h.symm
        have haf : aft s x f = f - cst s x.c + arl s x.d := rfl
        have h8 := c8_bd hk
        have hmo : most s = cap s - cst s 8 := rfl
        have hnx := nxt_ge hk (x := x) (f := f) (l := l.isEmpty)
        by_cases hf : f < cst s x.c
        · refine ⟨fun h => by omega, fun ⟨p, hp, _⟩ => ?_⟩
          have := (pads_cons hp).1
          omega
        · have e : n ≤ f ↔ m ≤ nxt s x f l.isEmpty := by omega
          rw [e, least hk l m (nxt s x f l.isEmpty) hl]
          constructor
          · rintro ⟨q, hq, hw⟩
            refine ⟨(pn s (aft s x f) l.isEmpty :: q.1, q.2), ?_, ?_⟩
            · simp only [pads]; rw [if_neg hf, hq]; rfl
            · exact hw
          · rintro ⟨p, hp, hw⟩
            obtain ⟨_, q, hq, rfl⟩ := pads_cons hp
            exact ⟨q, hq, hw⟩
      · cases h
theorem more {s : Sq} (hk : Ok s) : ∀ (us : List Un) (f1 f2 : Int) (p1 p2 : List Int × Int), f1 - cst s 8 < f2 → pads s us f1 = some p1 → pads s us f2 = some p2 → p1.2 - cst s 8 < p2.2
  | [], f1, f2, p1, p2, h, h1, h2 => by
    simp only [pads, Option.some.injEq] at h1 h2
    subst h1; subst h2; exact h
  | x :: l, f1, f2, p1, p2, h, h1, h2 => by
    obtain ⟨_, q1, e1, rfl⟩ := pads_cons h1
    obtain ⟨_, q2, e2, rfl⟩ := pads_cons h2
    refine more hk l _ _ q1 q2 ?_ e1 e2
    have a1 : aft s x f1 = f1 - cst s x.c + arl s x.d := rfl
    have a2 : aft s x f2 = f2 - cst s x.c + arl s x.d := rfl
    have h8 := c8_bd hk
    have hmo : most s = cap s - cst s 8 := rfl
    cases hl : l.isEmpty with
    | true => rw [nxt_last, nxt_last]; omega
    | false =>
      have n1 := nxt_ge hk (x := x) (f := f1) (l := false)
      have n2 := nxt_ge hk (x := x) (f := f2) (l := false)
      have b1 := nxt_bd hk (x := x) (f := f1)
      omega
theorem pads_hi {s : Sq} (hk : Ok s) : ∀ (us : List Un) (f : Int) (p : List Int × Int), (∀ x ∈ us, uok x = true) → f ≤ cap s → pads s us f = some p → p.2 ≤ 35184372088832 ∧ (us ≠ [] → 0 ≤ p.2)
  | [], f, p, hu, hf, h => by
    have := cap_bd hk
    simp only [pads, Option.some.injEq] at h
    subst h
    exact ⟨by show f ≤ _; omega, fun h => absurd rfl h⟩
  | x :: l, f, p, hu, hf, h => by
    have := cap_bd hk
    obtain ⟨hc, q, e, rfl⟩ := pads_cons h
    have hu' := uok_true (hu x (by simp))
    have hcb := cst_bd hk (b := x.c) (by omega)
    have hab := arl_bd hk (f := x.d) (by omega)
    have haf : aft s x f = f - cst s x.c + arl s x.d := rfl
    cases l with
    | nil =>
      simp only [List.isEmpty_nil] at e
      rw [nxt_last] at e
      simp only [pads, Option.some.injEq] at e
      subst e
      exact ⟨by show aft s x f ≤ _; omega, fun _ => by show 0 ≤ aft s x f; omega⟩
    | cons y l' =>
      have ih := pads_hi hk (y :: l') (nxt s x f false) q (fun z hz => hu z (by simp at hz ⊢; exact .inr hz)) (nxt_bd hk) e
      exact ⟨ih.1, fun _ => ih.2 (by simp)⟩
theorem prp_st {s : Sq} {us : List Un} {st : Int} (h : prp s us 0 = true) (h0 : 0 ≤ st) (h1 : st ≤ cap s) : prp s us st = true := by
  obtain ⟨hv, _, _, hl, ha⟩ := prp_true h
  rw [prp_all hv h0 h1 hl, List.all_eq_true]
  exact ha
theorem prp_0 {s : Sq} {us : List Un} {st : Int} (h : prp s us st = true) : prp s us 0 = true := by
  obtain ⟨hv, h0, h1, hl, ha⟩ := prp_true h
  rw [prp_all hv (by omega) (by omega) hl, List.all_eq_true]
  exact ha
/-- The law Least. -/
theorem leastL {s : Sq} {us : List Un} {wt st n : Int} (h : ned s us wt = (n, 0)) (h0 : 0 ≤ st) (h1 : st ≤ Cap s) : vs s = true ∧ decide (n ≤ st) = (decide ((endR s us st).2 = 0) && decide (wt ≤ (endR s us st).1)) := by
  unfold ned at h
  split at h
  · rename_i hp
    have hv := (prp_true hp.1).1
    have hk := (vs_true.1 hv).ok
    rw [Cap_ok hv] at h1
    have hs := prp_st hp.1 h0 h1
    refine ⟨hv, ?_⟩
    cases hn : nd s us wt with
    | none => rw [hn] at h; simp at h
    | some m =>
      rw [hn] at h
      simp only [Prod.mk.injEq, and_true] at h
      subst h
      have hL := least hk us m st hn
      cases hp2 : pads s us st with
      | none =>
        rw [endR_none hs hp2]
        have : ¬ m ≤ st := fun h => by obtain ⟨p, e, _⟩ := hL.1 h; rw [hp2] at e; cases e
        simp; omega
      | some p =>
        rw [endR_some hs hp2]
        have : m ≤ st ↔ wt ≤ p.2 := hL.trans ⟨fun ⟨q, e, hq⟩ => by rw [hp2] at e; cases e; exact hq, fun h => ⟨p, hp2, h⟩⟩
        simp [this]
  · simp at h
/-- The law More. -/
theorem moreL {s : Sq} {us : List Un} {st mo n f : Int} (hv : vs s = true) (h0 : 0 ≤ st) (hm0 : 0 ≤ mo) (hm : mo ≤ cap s - st) (he : endR s us st = (f, 0)) (hne : us ≠ []) (hn : ned s us 0 = (n, 0)) :
    n ≤ st ∧ (endR s us (st + mo)).2 = 0 ∧ f - cst s 8 < (endR s us (st + mo)).1 ∧ 0 ≤ f ∧ f ≤ 35184372088832 := by
  have hk := (vs_true.1 hv).ok
  have h1 : st ≤ cap s := by omega
  unfold endR at he
  split at he
  · rename_i hs
    cases hp : pads s us st with
    | none => rw [hp] at he; simp at he
    | some p =>
      rw [hp] at he
      simp only [Prod.mk.injEq, and_true] at he
      subst he
      have hb := pads_hi hk us st p (prp_true hs).2.2.2.2 h1 hp
      have hL := leastL hn h0 (by rw [Cap_ok hv]; exact h1)
      rw [endR_some hs hp] at hL
      have hle : n ≤ st := by
        have h3 := hL.2
        rw [decide_eq_true (p := (0 : Int) = 0) rfl, decide_eq_true (p := (0 : Int) ≤ p.2) (hb.2 hne)] at h3
        simpa using h3
      unfold ned at hn
      split at hn
      · cases hd : nd s us 0 with
        | none => rw [hd] at hn; simp at hn
        | some m =>
          rw [hd] at hn
          simp only [Prod.mk.injEq, and_true] at hn
          subst hn
          obtain ⟨p2, hp2, _⟩ := (least hk us m (st + mo) hd).1 (by omega)
          have hs2 := prp_st (prp_0 hs) (st := st + mo) (by omega) (by omega)
          have h8 := c8_bd hk
          rw [endR_some hs2 hp2]
          exact ⟨hle, rfl, more hk us st (st + mo) p p2 (by omega) hp hp2, hb.2 hne, hb.1⟩
      · simp at hn
  · simp at he
end Go.Proofs.Ytmghfhjiodeaeaa
