/- The fullness as a plain function, and what the walks need of it. -/
import Derived.Test.YtmghfhjiodeaeaaP3
namespace Go.Proofs.Ytmghfhjiodeaeaa

/-- Whether a unit is a violation. -/
def bd (s : Sq) (x : Un) (f : Int) (last : Bool) : Bool := decide (f < cst s x.c) || (!last && decide (cap s < aft s x f))
def rn (s : Sq) : List Un → Int → List (Int × Int) ⊕ Nat
  | [], _ => .inl []
  | x :: l, f => if bd s x f l.isEmpty = true then .inr 0 else match rn s l (aft s x f) with | .inl ls => .inl ((f, aft s x f) :: ls) | .inr i => .inr (i + 1)
def rnR (s : Sq) (us : List Un) (st : Int) : List (Int × Int) × Int := match rn s us st with | .inl ls => (ls, -1) | .inr i => ([], (i : Int))
def lv (p : Int × Int) : List Value := [.int .i64 p.1, .int .i64 p.2]
def lV (l : List (Int × Int)) : List Value := l.flatMap lv
theorem lV_append (l m : List (Int × Int)) : lV (l ++ m) = lV l ++ lV m := by simp [lV]
theorem lV_one (l : List (Int × Int)) : ∀ u ∈ lV l, u.oneCell' = true := by
  intro u hu
  simp only [lV, List.mem_flatMap, lv, List.mem_cons, List.not_mem_nil, or_false] at hu
  obtain ⟨x, _, rfl | rfl⟩ := hu <;> rfl
theorem lV_get : ∀ {l : List (Int × Int)} {i : Nat} {x : Int × Int}, l[i]? = some x → (lV l)[i * 2]? = some (.int .i64 x.1) ∧ (lV l)[i * 2 + 1]? = some (.int .i64 x.2)
  | [], i, x, h => by simp at h
  | y :: l, 0, x, h => by simp at h; subst h; simp [lV, lv]
  | y :: l, i + 1, x, h => by
    have := lV_get (l := l) (i := i) (x := x) (by simpa using h)
    have e : lV (y :: l) = .int .i64 y.1 :: .int .i64 y.2 :: lV l := rfl
    rw [e, show (i + 1) * 2 = i * 2 + 1 + 1 by omega, show i * 2 + 1 + 1 + 1 = (i * 2 + 1) + 1 + 1 by omega]
    simpa using this
theorem Reads.lev {w : World} {A : Option Addr} {ls : List (Int × Int)} {k : Nat} {x : Int × Int} (h : Reads w A 2 ls.length (lV ls)) (hk : ls[k]? = some x) : ∃ b off, A = some ⟨b, off, none⟩ ∧ w.cell? ⟨b, off + k * 2, none⟩ = some (.int .i64 x.1) ∧ w.cell? ⟨b, off + k * 2 + 1, none⟩ = some (.int .i64 x.2) := by
  have hlt : k < ls.length := (List.getElem?_eq_some_iff.1 hk).1
  obtain ⟨b, off, rfl, hc⟩ := h.plain (by omega) (by omega)
  obtain ⟨h0, h1⟩ := lV_get hk
  exact ⟨b, off, rfl, hc _ _ h0, by have := hc _ _ h1; rwa [← Nat.add_assoc] at this⟩
theorem bd_low {s : Sq} {x : Un} {f : Int} {l : Bool} (h : f < cst s x.c) : bd s x f l = true := by unfold bd; rw [decide_eq_true h]; rfl
theorem bd_last {s : Sq} {x : Un} {f : Int} (h : ¬ f < cst s x.c) : bd s x f true = false := by unfold bd; rw [decide_eq_false h]; rfl
theorem bd_mid {s : Sq} {x : Un} {f : Int} (h : ¬ f < cst s x.c) : bd s x f false = decide (cap s < aft s x f) := by unfold bd; rw [decide_eq_false h]; rfl
theorem rn_drop {s : Sq} {us : List Un} {k : Nat} {x : Un} (h : us[k]? = some x) (f : Int) : rn s (us.drop k) f = if bd s x f (decide (us.length ≤ k + 1)) = true then .inr 0 else match rn s (us.drop (k + 1)) (aft s x f) with | .inl ls => .inl ((f, aft s x f) :: ls) | .inr i => .inr (i + 1) := by
  have hlt : k < us.length := (List.getElem?_eq_some_iff.1 h).1
  have e : us[k] = x := by rw [List.getElem?_eq_getElem hlt] at h; simpa using h
  rw [List.drop_eq_getElem_cons hlt, e]
  have hl : (us.drop (k + 1)).isEmpty = decide (us.length ≤ k + 1) := by
    cases hd : us.drop (k + 1) with
    | nil =>
      have := congrArg List.length hd
      simp at this
      simp; omega
    | cons y l =>
      have := congrArg List.length hd
      simp at this
      simp; omega
  rw [rn, hl]
def glue (ls : List (Int × Int)) (k : Nat) : List (Int × Int) ⊕ Nat → List (Int × Int) ⊕ Nat
  | .inl l => .inl (ls ++ l)
  | .inr i => .inr (k + i)
structure RI (s : Sq) (us : List Un) (st : Int) (k : Nat) (f : Int) (ls : List (Int × Int)) : Prop where
  len : ls.length = k
  eq : rn s us st = glue ls k (rn s (us.drop k) f)
theorem RI.start (s : Sq) (us : List Un) (st : Int) : RI s us st 0 st [] := by
  refine ⟨rfl, ?_⟩
  rw [List.drop_zero]
  cases rn s us st <;> simp [glue]
theorem RI.step {s : Sq} {us : List Un} {st : Int} {k : Nat} {f : Int} {ls : List (Int × Int)} {x : Un} (h : RI s us st k f ls) (hx : us[k]? = some x) (l : Bool) (hl : decide (us.length ≤ k + 1) = l) (hf : bd s x f l = false) :
    RI s us st (k + 1) (aft s x f) (ls ++ [(f, aft s x f)]) := by
  refine ⟨by simp [h.len], ?_⟩
  rw [h.eq, rn_drop hx, hl, if_neg (by simp [hf])]
  cases rn s (us.drop (k + 1)) (aft s x f) with
  | inl a => simp [glue]
  | inr i => simp only [glue]; congr 1; omega
theorem RI.fail {s : Sq} {us : List Un} {st : Int} {k : Nat} {f : Int} {ls : List (Int × Int)} {x : Un} (h : RI s us st k f ls) (hx : us[k]? = some x) (l : Bool) (hl : decide (us.length ≤ k + 1) = l) (hf : bd s x f l = true) : rnR s us st = ([], (k : Int)) := by
  unfold rnR
  rw [h.eq, rn_drop hx, hl, if_pos hf]; rfl
theorem RI.done {s : Sq} {us : List Un} {st : Int} {f : Int} {ls : List (Int × Int)} (h : RI s us st us.length f ls) : rnR s us st = (ls, -1) := by
  unfold rnR
  rw [h.eq, List.drop_length]; simp [rn, glue]
def RunC (s : Sq) (us : List Un) (st : Int) (w : World) (e : Ending) (w' : World) : Prop :=
  ∃ A c, e = .returned (.tuple #[.slice A (rnR s us st).1.length c, .int .i64 (rnR s us st).2]) ∧ Reads w' A 2 (rnR s us st).1.length (lV (rnR s us st).1) ∧ Only [] w w'
theorem RunC.of {s : Sq} {us : List Un} {st : Int} {w w' : World} {A : Option Addr} {c n : Nat} {ns : List (Int × Int)} {r : Int} (he : rnR s us st = (ns, r)) (hn : n = ns.length) (hr : Reads w' A 2 n (lV ns)) (ho : Only [] w w') :
    RunC s us st w (.returned (.tuple #[.slice A n c, .int .i64 r])) w' := by
  subst hn
  unfold RunC
  rw [he]
  exact ⟨A, c, rfl, hr, ho⟩
theorem RunC.to {s : Sq} {us : List Un} {st : Int} {w w' : World} {e : Ending} {ns : List (Int × Int)} {r : Int} (h : rnR s us st = (ns, r)) (hc : RunC s us st w e w') :
    ∃ A c, e = .returned (.tuple #[.slice A ns.length c, .int .i64 r]) ∧ Reads w' A 2 ns.length (lV ns) ∧ Only [] w w' := by
  unfold RunC at hc
  rwa [h] at hc
theorem info_lv : (Try.prog.info? 54).map (fun i => (i.zero, i.size, i.bytes)) = some (some (.agg (lv (0, 0)).toArray), 2, 16) := by kernel_rfl
theorem info_rlv : (Try.prog.info? 55).map (fun i => (i.zero, i.size, i.bytes)) = some (some (.agg (lv (0, 0)).toArray), 2, 16) := by kernel_rfl
end Go.Proofs.Ytmghfhjiodeaeaa
