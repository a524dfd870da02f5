/- Units with stuffing: the plain law of Steers. -/
import Derived.Test.YtmghfhjiodeaeaaU13
namespace Go.Proofs.Ytmghfhjiodeaeaa

def pad1 (x : Un) (q : Int) : Un := ⟨x.a, x.b, x.c + 8 * q, x.d⟩
def pu (us : List Un) (ns : List Int) : List Un := List.zipWith pad1 us ns
def less (y : Un) : Un := ⟨y.a, y.b, y.c - 8, y.d⟩
def low : Nat → List Un → List Un
  | _, [] => []
  | 0, y :: l => less y :: l
  | k + 1, y :: l => y :: low k l
theorem low_set : ∀ {k : Nat} {l : List Un} {y : Un}, l[k]? = some y → l.set k (less y) = low k l
  | k, [], y, h => by simp at h
  | 0, z :: l, y, h => by simp at h; subst h; rfl
  | k + 1, z :: l, y, h => by
    have := low_set (k := k) (l := l) (y := y) (by simpa using h)
    rw [List.set_cons_succ, this]; rfl
theorem low_len : ∀ (k : Nat) (l : List Un), (low k l).length = l.length
  | _, [] => by simp [low]
  | 0, y :: l => by simp [low]
  | k + 1, y :: l => by simp [low, low_len k l]
theorem cst_pad (s : Sq) (b q : Int) : cst s (b + 8 * q) = cst s b + cst s 8 * q := by
  unfold cst
  rw [Int.mul_add, Int.mul_assoc (2 * s.num) 8 q]
theorem cst_less (s : Sq) (b : Int) : cst s (b - 8) = cst s b - cst s 8 := by
  unfold cst
  rw [Int.mul_sub]
theorem arl_cap {s : Sq} (h : VS s) {f : Int} (hf : f = 2 ∨ f = 3) : arl s f + 2 * cst s 8 ≤ cap s := by
  have hk := h.ok
  unfold VS at h
  obtain ⟨_, _, _, _, _, _, _, _, _, _, _, _, _, _, _, h16, _⟩ := h
  have hb := bd_bd hk
  have e : 3 * s.den * s.br = 3 * (s.br * s.den) := by rw [Int.mul_assoc, Int.mul_comm s.den]
  rw [e] at h16
  unfold arl cst cap
  rcases hf with rfl | rfl <;> omega
theorem pu_len {us : List Un} {ns : List Int} (h : ns.length = us.length) : (pu us ns).length = us.length := by simp [pu, h]
theorem pu_empty {us : List Un} {ns : List Int} (h : ns.length = us.length) : (pu us ns).isEmpty = us.isEmpty := by
  cases us with
  | nil => simp [pu]
  | cons x l =>
    cases ns with
    | nil => simp at h
    | cons q m => simp [pu]
theorem low_empty (k : Nat) (l : List Un) : (low k l).isEmpty = l.isEmpty := by
  cases l with
  | nil => simp [low]
  | cons x l => cases k <;> simp [low]
/-- One unit with its stuffing. -/
theorem one_pad {s : Sq} (h : VS s) {x : Un} (hu : uok x = true) {f : Int} (hf : cst s x.c ≤ f) (l : Bool) :
    bd s (pad1 x (pn s (aft s x f) l)) f l = false ∧ aft s (pad1 x (pn s (aft s x f) l)) f = nxt s x f l := by
  have hk := h.ok
  have h8 := c8_bd hk
  have hu' := uok_true hu
  have hac := arl_cap h (f := x.d) hu'.2.2
  have hab := arl_bd hk (f := x.d) (by omega)
  have e1 : cst s (pad1 x (pn s (aft s x f) l)).c = cst s x.c + cst s 8 * pn s (aft s x f) l := cst_pad _ _ _
  have e2 : aft s (pad1 x (pn s (aft s x f) l)) f = nxt s x f l := by
    have e3 : aft s (pad1 x (pn s (aft s x f) l)) f = f - cst s (pad1 x (pn s (aft s x f) l)).c + arl s x.d := rfl
    have e4 : nxt s x f l = aft s x f - cst s 8 * pn s (aft s x f) l := rfl
    have e5 : aft s x f = f - cst s x.c + arl s x.d := rfl
    rw [e3, e1, e4]
    omega
  refine ⟨?_, e2⟩
  have haf : aft s x f = f - cst s x.c + arl s x.d := rfl
  have hlow : ¬ f < cst s (pad1 x (pn s (aft s x f) l)).c := by
    rw [e1]
    cases l with
    | true => rw [pn_zero (.inr rfl)]; omega
    | false =>
      by_cases hov : 0 < aft s x f - cap s
      · have := pn_bd hk hov
        omega
      · rw [pn_zero (.inl (by omega))]; omega
  cases l with
  | true => exact bd_last hlow
  | false =>
    rw [bd_mid hlow, e2]
    have := nxt_bd hk (x := x) (f := f)
    exact decide_eq_false (by omega)
theorem rn_pu {s : Sq} (h : VS s) : ∀ (us : List Un) (f : Int) (p : List Int × Int), (∀ x ∈ us, uok x = true) → pads s us f = some p → ∃ ls, rn s (pu us p.1) f = .inl ls
  | [], f, p, _, hp => by
    simp only [pads, Option.some.injEq] at hp
    subst hp
    exact ⟨[], rfl⟩
  | x :: l, f, p, hu, hp => by
    obtain ⟨hc, q, hq, rfl⟩ := pads_cons hp
    obtain ⟨ls, hls⟩ := rn_pu h l _ q (fun z hz => hu z (List.mem_cons_of_mem _ hz)) hq
    obtain ⟨h1, h2⟩ := one_pad h (hu x (by simp)) hc l.isEmpty
    refine ⟨(f, nxt s x f l.isEmpty) :: ls, ?_⟩
    show rn s (pad1 x (pn s (aft s x f) l.isEmpty) :: pu l q.1) f = _
    rw [rn, pu_empty (pads_len l hq), if_neg (by simp [h1]), h2, hls]
theorem rn_low {s : Sq} (h : VS s) : ∀ (us : List Un) (f : Int) (p : List Int × Int) (k : Nat) (q : Int), (∀ x ∈ us, uok x = true) → pads s us f = some p → p.1[k]? = some q → q ≠ 0 → rn s (low k (pu us p.1)) f = .inr k
  | [], f, p, k, q, _, hp, hk, _ => by
    simp only [pads, Option.some.injEq] at hp
    subst hp
    simp at hk
  | x :: l, f, p, 0, q0, hu, hp, hk0, hq0 => by
    obtain ⟨hc, q, hq, rfl⟩ := pads_cons hp
    simp only [List.getElem?_cons_zero, Option.some.injEq] at hk0
    have hk := h.ok
    have h8 := c8_bd hk
    have hu' := uok_true (hu x (by simp))
    have hac := arl_cap h (f := x.d) hu'.2.2
    have hab := arl_bd hk (f := x.d) (by omega)
    have haf : aft s x f = f - cst s x.c + arl s x.d := rfl
    cases hl : l.isEmpty with
    | true => rw [hl, pn_zero (.inr rfl)] at hk0; exact absurd hk0.symm hq0
    | false =>
      rw [hl] at hk0
      by_cases hov : 0 < aft s x f - cap s
      · have hb := pn_bd hk hov
        rw [hk0] at hb
        have e1 : cst s (less (pad1 x q0)).c = cst s x.c + cst s 8 * q0 - cst s 8 := by
          show cst s (x.c + 8 * q0 - 8) = _
          rw [cst_less, cst_pad]
        have hbad : bd s (less (pad1 x q0)) f false = true := by
          rw [bd_mid (by rw [e1]; omega)]
          refine decide_eq_true ?_
          unfold aft
          rw [e1]
          show cap s < f - _ + arl s x.d
          omega
        show rn s (low 0 (pad1 x (pn s (aft s x f) false) :: pu l q.1)) f = _
        rw [hk0]
        show rn s (less (pad1 x q0) :: pu l q.1) f = _
        rw [rn, pu_empty (pads_len l hq), hl, if_pos hbad]
      · rw [pn_zero (.inl (by omega))] at hk0; exact absurd hk0.symm hq0
  | x :: l, f, p, k + 1, q0, hu, hp, hk0, hq0 => by
    obtain ⟨hc, q, hq, rfl⟩ := pads_cons hp
    have ih := rn_low h l _ q k q0 (fun z hz => hu z (List.mem_cons_of_mem _ hz)) hq (by simpa using hk0) hq0
    obtain ⟨h1, h2⟩ := one_pad h (hu x (by simp)) hc l.isEmpty
    show rn s (pad1 x (pn s (aft s x f) l.isEmpty) :: low k (pu l q.1)) f = _
    rw [rn, low_empty, pu_empty (pads_len l hq), if_neg (by simp [h1]), h2, ih]
theorem pads_nn {s : Sq} (hk : Ok s) : ∀ (us : List Un) (f : Int) (p : List Int × Int), (∀ x ∈ us, uok x = true) → f ≤ cap s → pads s us f = some p → ∀ q ∈ p.1, 0 ≤ q ∧ q ≤ 35184372088832
  | [], f, p, _, _, hp, q, hq => by
    simp only [pads, Option.some.injEq] at hp
    subst hp
    simp at hq
  | x :: l, f, p, hu, hf, hp, q, hq => by
    obtain ⟨hc, r, hr, rfl⟩ := pads_cons hp
    have hu' := uok_true (hu x (by simp))
    have hcb := cst_bd hk (b := x.c) (by omega)
    have hab := arl_bd hk (f := x.d) (by omega)
    have haf : aft s x f = f - cst s x.c + arl s x.d := rfl
    have h8 := c8_bd hk
    simp only [List.mem_cons] at hq
    cases l with
    | nil =>
      simp only [List.isEmpty_nil] at hr hq
      simp only [pads, Option.some.injEq] at hr
      subst hr
      rw [pn_zero (.inr rfl)] at hq
      simp at hq
      omega
    | cons y l' =>
      rcases hq with rfl | hq
      · show 0 ≤ pn s (aft s x f) false ∧ pn s (aft s x f) false ≤ _
        by_cases hov : 0 < aft s x f - cap s
        · have := pn_bd hk hov; omega
        · rw [pn_zero (.inl (by omega))]; omega
      · exact pads_nn hk (y :: l') (nxt s x f false) r (fun z hz => hu z (List.mem_cons_of_mem _ hz)) (nxt_bd hk) hr q hq
theorem pu_get {us : List Un} {ns : List Int} {k : Nat} {x : Un} {q : Int} (hx : us[k]? = some x) (hq : ns[k]? = some q) : (pu us ns)[k]? = some (pad1 x q) := by
  unfold pu
  rw [List.getElem?_zipWith, hx, hq]
theorem pu_mem {us : List Un} {ns : List Int} {y : Un} (h : y ∈ pu us ns) : ∃ x ∈ us, ∃ q ∈ ns, y = pad1 x q := by
  obtain ⟨k, hk⟩ := List.getElem?_of_mem h
  unfold pu at hk
  rw [List.getElem?_zipWith] at hk
  cases hx : us[k]? with
  | none => rw [hx] at hk; simp at hk
  | some x =>
    cases hq : ns[k]? with
    | none => rw [hx, hq] at hk; simp at hk
    | some q =>
      rw [hx, hq] at hk
      simp only [Option.some.injEq] at hk
      exact ⟨x, List.mem_of_getElem? hx, q, List.mem_of_getElem? hq, hk.symm⟩
theorem uok_of {x : Un} (h0 : 0 ≤ x.c) (h1 : x.c ≤ 8388608) (h2 : x.d = 2 ∨ x.d = 3) : uok x = true := by
  unfold uok
  rw [decide_eq_true h0, decide_eq_true h1]
  rcases h2 with h | h <;> rw [h] <;> rfl
theorem prp_pu {s : Sq} {us : List Un} {st : Int} {p : List Int × Int} (h : prp s us st = true) (hp : pads s us st = some p) (hall : ∀ y ∈ pu us p.1, y.c ≤ 8388608) : prp s (pu us p.1) st = true := by
  obtain ⟨hv, h0, h1, hl, ha⟩ := prp_true h
  have hk := (vs_true.1 hv).ok
  have hnn := pads_nn hk us st p ha h1 hp
  rw [prp_all hv h0 h1 (by rw [pu_len (pads_len us hp)]; exact hl), List.all_eq_true]
  intro y hy
  obtain ⟨x, hx, q, hq, rfl⟩ := pu_mem hy
  have hu := uok_true (ha x hx)
  have := (hnn q hq).1
  exact uok_of (by show 0 ≤ x.c + 8 * q; omega) (hall _ hy) hu.2.2
/-- With the stuffing the buffer holds. -/
theorem steers1 {s : Sq} {us : List Un} {st : Int} {p : List Int × Int} (h : prp s us st = true) (hp : pads s us st = some p) (hall : ∀ y ∈ pu us p.1, y.c ≤ 8388608) : ∃ ls, runE s (pu us p.1) st = (ls, 0) := by
  obtain ⟨hv, h0, h1, hl, ha⟩ := prp_true h
  obtain ⟨ls, hls⟩ := rn_pu (vs_true.1 hv) us st p ha hp
  have hR : rnR s (pu us p.1) st = (ls, -1) := by unfold rnR; rw [hls]
  exact ⟨ls, runE_ok (prp_pu h hp hall) hR (by omega)⟩
theorem low_mem : ∀ {k : Nat} {l : List Un} {z : Un}, z ∈ low k l → z ∈ l ∨ ∃ y, l[k]? = some y ∧ z = less y
  | k, [], z, h => by simp [low] at h
  | 0, y :: l, z, h => by
    simp only [low, List.mem_cons] at h
    rcases h with rfl | h
    · exact .inr ⟨y, rfl, rfl⟩
    · exact .inl (List.mem_cons_of_mem _ h)
  | k + 1, y :: l, z, h => by
    simp only [low, List.mem_cons] at h
    rcases h with rfl | h
    · exact .inl (by simp)
    · rcases low_mem h with h | ⟨v, hv, e⟩
      · exact .inl (List.mem_cons_of_mem _ h)
      · exact .inr ⟨v, by simpa using hv, e⟩
/-- With one byte less it overflows there. -/
theorem steers2 {s : Sq} {us : List Un} {st : Int} {p : List Int × Int} {k : Nat} {q : Int} (h : prp s us st = true) (hp : pads s us st = some p) (hall : ∀ y ∈ pu us p.1, y.c ≤ 8388608) (hk : p.1[k]? = some q) (hq : q ≠ 0) :
    frs s (low k (pu us p.1)) st = (k : Int) := by
  obtain ⟨hv, h0, h1, hl, ha⟩ := prp_true h
  have hok := (vs_true.1 hv).ok
  have hnn := pads_nn hok us st p ha h1 hp
  have hP := prp_pu h hp hall
  obtain ⟨_, _, _, hl2, ha2⟩ := prp_true hP
  have hP2 : prp s (low k (pu us p.1)) st = true := by
    rw [prp_all hv h0 h1 (by rw [low_len]; exact hl2), List.all_eq_true]
    intro z hz
    rcases low_mem hz with hz | ⟨y, hy, rfl⟩
    · exact ha2 z hz
    · have hlen := pads_len us hp
      have hkl : k < us.length := by rw [← hlen]; exact (List.getElem?_eq_some_iff.1 hk).1
      obtain ⟨x, hx⟩ : ∃ x, us[k]? = some x := ⟨_, List.getElem?_eq_getElem hkl⟩
      rw [pu_get hx hk] at hy
      simp only [Option.some.injEq] at hy
      subst hy
      have hu := uok_true (ha x (List.mem_of_getElem? hx))
      have hb := hall (pad1 x q) (List.mem_of_getElem? (pu_get hx hk))
      have h3 : (pad1 x q).c = x.c + 8 * q := rfl
      have h4 := (hnn q (List.mem_of_getElem? hk)).1
      have h5 : (less (pad1 x q)).c = x.c + 8 * q - 8 := rfl
      exact uok_of (by rw [h5]; omega) (by rw [h5]; omega) hu.2.2
  have hR : rnR s (low k (pu us p.1)) st = ([], (k : Int)) := by unfold rnR; rw [rn_low (vs_true.1 hv) us st p k q ha hp hk hq]
  exact frs_ok hP2 hR
end Go.Proofs.Ytmghfhjiodeaeaa
