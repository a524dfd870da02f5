/- Stuffing as a plain function, and what the walks need of it. -/
import Derived.Test.YtmghfhjiodeaeaaP1
namespace Go.Proofs.Ytmghfhjiodeaeaa

theorem quo_bd {a b : Int} (ha : 0 ≤ a) (hb : 0 < b) : 0 ≤ a.tdiv b ∧ a.tdiv b ≤ a ∧ b * a.tdiv b ≤ a ∧ a < b * a.tdiv b + b := by
  rw [Int.tdiv_eq_ediv_of_nonneg ha]
  have h1 := Int.mul_ediv_add_emod a b
  have h2 := Int.emod_nonneg a (b := b) (by omega)
  have h3 := Int.emod_lt_of_pos a hb
  exact ⟨Int.ediv_nonneg ha (by omega), Int.ediv_le_self _ ha, by omega, by omega⟩
def iV (l : List Int) : List Value := l.map (Value.int .i64)
theorem iV_length (l : List Int) : (iV l).length = l.length := by simp [iV]
theorem iV_append (l m : List Int) : iV (l ++ m) = iV l ++ iV m := by simp [iV]
theorem iV_get {l : List Int} {k : Nat} {x : Int} (h : l[k]? = some x) : (iV l)[k]? = some (.int .i64 x) := by simp [iV, h]
theorem iV_one (l : List Int) : ∀ u ∈ iV l, u.oneCell' = true := by
  intro u hu
  simp only [iV, List.mem_map] at hu
  obtain ⟨x, _, rfl⟩ := hu
  rfl
/-- The fullness behind a unit, without stuffing. -/
def aft (s : Sq) (x : Un) (f : Int) : Int := f - cst s x.c + arl s x.d
/-- The stuffing behind a unit. -/
def pn (s : Sq) (g : Int) (last : Bool) : Int := if 0 < g - cap s ∧ last = false then (g - cap s + cst s 8 - 1).tdiv (cst s 8) else 0
def nxt (s : Sq) (x : Un) (f : Int) (last : Bool) : Int := aft s x f - cst s 8 * pn s (aft s x f) last
def pads (s : Sq) : List Un → Int → Option (List Int × Int)
  | [], f => some ([], f)
  | x :: l, f => if f < cst s x.c then none else (pads s l (nxt s x f l.isEmpty)).map fun p => (pn s (aft s x f) l.isEmpty :: p.1, p.2)
def padR (s : Sq) (us : List Un) (st : Int) : List Int × Int :=
  if prp s us st = true then (match pads s us st with | some p => (p.1, 0) | none => ([], 9)) else ([], 1)
theorem c8_bd {s : Sq} (h : Ok s) : 16 ≤ cst s 8 ∧ cst s 8 ≤ 16777216 := by
  have := h.num
  unfold cst; omega
theorem pn_zero {s : Sq} {g : Int} {l : Bool} (h : g - cap s ≤ 0 ∨ l = true) : pn s g l = 0 := by
  unfold pn
  rw [if_neg]
  rintro ⟨h1, h2⟩
  rcases h with h | h
  · omega
  · rw [h] at h2; cases h2
theorem pn_pos {s : Sq} {g : Int} (h : 0 < g - cap s) : pn s g false = (g - cap s + cst s 8 - 1).tdiv (cst s 8) := by
  unfold pn; rw [if_pos ⟨h, rfl⟩]
theorem pn_bd {s : Sq} (h : Ok s) {g : Int} (hg : 0 < g - cap s) : 0 ≤ pn s g false ∧ pn s g false ≤ g - cap s + cst s 8 ∧ g - cap s ≤ cst s 8 * pn s g false ∧ cst s 8 * pn s g false < g - cap s + cst s 8 := by
  have h8 := c8_bd h
  rw [pn_pos hg]
  have := quo_bd (a := g - cap s + cst s 8 - 1) (b := cst s 8) (by omega) (by omega)
  omega
theorem pads_drop {s : Sq} {us : List Un} {k : Nat} {x : Un} (h : us[k]? = some x) (f : Int) : pads s (us.drop k) f = if f < cst s x.c then none else (pads s (us.drop (k + 1)) (nxt s x f (decide (us.length ≤ k + 1)))).map fun p => (pn s (aft s x f) (decide (us.length ≤ k + 1)) :: p.1, p.2) := by
  have hlt : k < us.length := (List.getElem?_eq_some_iff.1 h).1
  have e : us[k] = x := by rw [List.getElem?_eq_getElem hlt] at h; simpa using h
  rw [List.drop_eq_getElem_cons hlt, e]
  have hl : (us.drop (k + 1)).isEmpty = decide (us.length ≤ k + 1) := by
    cases hd : us.drop (k + 1) with
    | nil =>
      have := congrArg List.length hd
      simp at this
      simp; omega
    | cons y l =>
      have := congrArg List.length hd
      simp at this
      simp; omega
  rw [pads, hl]
/-- How far a walk through the units has come. -/
structure PI (s : Sq) (us : List Un) (st : Int) (k : Nat) (f : Int) (ns : List Int) : Prop where
  len : ns.length = k
  eq : pads s us st = (pads s (us.drop k) f).map fun p => (ns ++ p.1, p.2)
theorem PI.start (s : Sq) (us : List Un) (st : Int) : PI s us st 0 st [] := by
  refine ⟨rfl, ?_⟩
  rw [List.drop_zero]
  cases pads s us st <;> simp
theorem PI.step {s : Sq} {us : List Un} {st : Int} {k : Nat} {f : Int} {ns : List Int} {x : Un} (h : PI s us st k f ns) (hx : us[k]? = some x) (hf : ¬ f < cst s x.c) (l : Bool) (hl : decide (us.length ≤ k + 1) = l) :
    PI s us st (k + 1) (nxt s x f l) (ns ++ [pn s (aft s x f) l]) := by
  refine ⟨by simp [h.len], ?_⟩
  rw [h.eq, pads_drop hx, if_neg hf, hl, Option.map_map]
  congr 1
  funext p
  simp
theorem PI.fail {s : Sq} {us : List Un} {st : Int} {k : Nat} {f : Int} {ns : List Int} {x : Un} (h : PI s us st k f ns) (hx : us[k]? = some x) (hf : f < cst s x.c) : pads s us st = none := by
  rw [h.eq, pads_drop hx, if_pos hf]; rfl
theorem PI.done {s : Sq} {us : List Un} {st : Int} {f : Int} {ns : List Int} (h : PI s us st us.length f ns) : pads s us st = some (ns, f) := by
  rw [h.eq, List.drop_length]; simp [pads]
theorem nxt_last {s : Sq} {x : Un} {f : Int} : nxt s x f true = aft s x f := by unfold nxt; rw [pn_zero (.inr rfl)]; omega
theorem nxt_low {s : Sq} {x : Un} {f : Int} {l : Bool} (h : aft s x f - cap s ≤ 0) : nxt s x f l = aft s x f := by unfold nxt; rw [pn_zero (.inl h)]; omega
theorem nxt_bd {s : Sq} (h : Ok s) {x : Un} {f : Int} : nxt s x f false ≤ cap s := by
  by_cases hg : 0 < aft s x f - cap s
  · have := pn_bd h hg
    unfold nxt; omega
  · rw [nxt_low (by omega)]; omega
theorem padR_bad {s : Sq} {us : List Un} {st : Int} (h : prp s us st = false) : padR s us st = ([], 1) := by unfold padR; rw [if_neg (by simp [h])]
theorem padR_none {s : Sq} {us : List Un} {st : Int} (h : prp s us st = true) (hp : pads s us st = none) : padR s us st = ([], 9) := by unfold padR; rw [if_pos h, hp]
theorem padR_some {s : Sq} {us : List Un} {st : Int} {ns : List Int} {f : Int} (h : prp s us st = true) (hp : pads s us st = some (ns, f)) : padR s us st = (ns, 0) := by unfold padR; rw [if_pos h, hp]
theorem pset {ns : List Int} {k n : Nat} (h : ns.length = k) (hk : k < n) (q : Int) : ((iV (ns ++ List.replicate (n - k) 0)).toArray).setIfInBounds k (.int .i64 q) = (iV ((ns ++ [q]) ++ List.replicate (n - (k + 1)) 0)).toArray := by
  obtain ⟨m, hm⟩ : ∃ m, n - k = m + 1 := ⟨n - k - 1, by omega⟩
  rw [hm, show n - (k + 1) = m by omega, List.replicate_succ, List.setIfInBounds_toArray]
  congr 1
  subst h
  simp [iV]
theorem pkeep {ns : List Int} {k n : Nat} (hk : k < n) : ns ++ List.replicate (n - k) 0 = (ns ++ [0]) ++ List.replicate (n - (k + 1)) (0 : Int) := by
  obtain ⟨m, hm⟩ : ∃ m, n - k = m + 1 := ⟨n - k - 1, by omega⟩
  rw [hm, show n - (k + 1) = m by omega, List.replicate_succ]
  simp
theorem Reads.of_blk {w : World} {g : Nat} {t : TypeId} {l : List Value} (h : Blk w g t l.toArray) : Reads w (some ⟨g, 0, none⟩) 1 l.length l :=
  ⟨by omega, fun _ => ⟨_, rfl, fun j u hu => by rw [add_plain, h.cell]; simpa using hu⟩⟩
theorem info_i64 : (Try.prog.info? 2).map (fun i => (i.zero, i.size, i.bytes)) = some (some (.int .i64 0), 1, 8) := by kernel_rfl
end Go.Proofs.Ytmghfhjiodeaeaa
