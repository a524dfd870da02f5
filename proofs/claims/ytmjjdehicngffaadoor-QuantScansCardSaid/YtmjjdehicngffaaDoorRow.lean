/- From a walk to a row: arguments opened, and what is left to say behind the call. Plain lemmas, no condition. -/
import Derived.Test.YtmjjdehicngffaaDoorRows
import Derived.Test.YtmjjdehicngffaaDoorBase
import Derived.ProofKit
import Derived.OpenShut
import Derived.SizedLaws
import Derived.Deep.Slices
import Derived.Deep.Fields
import Derived.ChangeSame
namespace Go.Proofs.YtmjjdehicngffaaDoor
open Go.ChangeShapes Go.WideShapes Go.ChangeAt Go.RowKit Go.Deep

theorem own : ownKnob Tryd.prog.godebug = none := by kernel_rfl
theorem laidOut : laidOutB Tryd.prog = true := by kernel_rfl

theorem i64_of {x : Int} (w : (Lit.int .i64 x).wf = true) : -9223372036854775808 ≤ x ∧ x ≤ 9223372036854775807 := by
  simpa [Lit.wf, IntKind.min, IntKind.max, IntKind.signed, IntKind.bits] using w
theorem i64_all {l : List Int} (w : ∀ z ∈ l, (Lit.int .i64 z).wf = true) : ∀ z ∈ l, -9223372036854775808 ≤ z ∧ z ≤ 9223372036854775807 := fun z hz => i64_of (w z hz)

section
variable {H : Type} {enc : TypeId × Value → H} {P : Program}
theorem trodAll_stays (hl : laidOutB P = true) {W W' : World} (hb : Below W.heap.size W W') : ∀ (ts : List TypeId) (vs : List Value) (ds : List (DataW H)) (ps : List MemPlace),
    (ts.all fun t => P.readableRec t && decide (t < P.types.size)) = true → DataW.TrodAll enc P W 0 (fun _ => true) true ts vs ds ps → (∀ x ∈ ps, x.block < W.heap.size) → DataW.TrodAll enc P W' 0 (fun b => decide (b < W.heap.size)) true ts vs ds ps
  | [], vs, ds, ps, _, h, _ => by
    cases vs <;> cases ds <;> simp [DataW.TrodAll] at h ⊢
    exact h
  | t :: ts, vs, ds, ps, hr, h, hlt => by
    obtain ⟨v, vs', d, ds', p, q, rfl, rfl, rfl, h1, h2⟩ := trodAll_cons h
    simp only [List.all_cons, Bool.and_eq_true, decide_eq_true_eq] at hr
    exact trodAll_cons_mk (Below.trod hl hr.1.1 hr.1.2 h1 hb (fun x hx => hlt x (by simp [hx]))) (trodAll_stays hl hb ts vs' ds' q (by simpa using hr.2) h2 (fun x hx => hlt x (by simp [hx])))

/-- A law that has returned true and has changed nothing that was there. -/
theorem law_post {f : Func} {s : ChangeSpec} {apart handsOn : Bool} {W W' : World} {args : Array Value} {ds gs : List (DataW H)} {before : List MemPlace} {tb : TypeId}
    (hW : DataW.Whole enc P f.params.toList s.vars apart W args.toList ds gs before) (hl : laidOutB P = true) (hr : (f.params.toList.all fun t => P.readableRec t && decide (t < P.types.size)) = true)
    (hv : s.vars = []) (hfn : (s.fn H (ds ++ gs)).results = [.lit (.bool true)] ∧ (s.fn H (ds ++ gs)).args = ds ∧ (s.fn H (ds ++ gs)).vars = []) (ht : f.resultTypes = #[tb]) (hub : P.underlying tb = some .bool) (hb : Below W.heap.size W W') :
    s.post enc P f apart true handsOn false W args (.bool true) W' := by
  have hlt : ∀ p ∈ before, p.block < W.heap.size := fun p hp => hW.lt p hp
  have hW' := hW
  obtain ⟨p, q, hA, hV, rfl, _, _⟩ := hW
  obtain ⟨h1, h2, h3⟩ := hfn
  refine ⟨ds, gs, p ++ q, [], p, [], hW', ?_, ?_, ?_, hb.frame _, fun h => by cases h⟩
  · rw [h1, ht]
    exact trodAll_cons_mk (shut_bool hub true) trodAll_mk0
  · rw [h2]
    exact trodAll_stays hl hb _ _ _ _ hr hA (fun x hx => hlt x (by simp [hx]))
  · rw [h3, hv]
    rfl

/-- A slice of integers. -/
theorem open_intsR {t e : TypeId} {k : IntKind} {r : Reach} {b0 : Nat} {W : World} {v : Value} {d : DataW H} {ps : List MemPlace} (ht : P.underlying t = some (.slice e)) (he : P.underlying e = some (.int k)) (hc : P.cellsOf e = 1)
    (hval : Value.okWide P W r b0 t v) (hd : DataW.Trod enc P W 0 (fun _ => true) true t v d ps) :
    ∃ A len cap zs, v = .slice A len cap ∧ List.length zs = len ∧ len ≤ cap ∧ cap ≤ maxLen ∧ Reads W A 1 len (zs.map (Value.int k)) ∧ ∀ z ∈ zs, (Lit.int k z).wf = true := by
  obtain ⟨a0, len, cap, rfl⟩ := okWide_slice ht hval
  obtain ⟨fuel, hf⟩ := hd
  rcases open_ints ht he hc hf with ⟨hcs, _⟩ | ⟨a, len', cap', zs, hcs, _, hl, hm, hz, _, hcell, hwz⟩
  · simp [Value.cells] at hcs
    obtain ⟨rfl, rfl, rfl⟩ := hcs
    exact ⟨none, 0, 0, [], rfl, rfl, Nat.le_refl _, Nat.zero_le _, Reads.none_, by simp⟩
  · simp [Value.cells] at hcs
    obtain ⟨rfl, rfl, rfl⟩ := hcs
    simp only [if_true] at hz
    refine ⟨some a, len, cap, zs.take len, rfl, by simp; omega, hl, hm, ⟨by simp; omega, fun _ => ⟨a, rfl, fun j u hj => ?_⟩⟩, fun z hz' => hwz z (List.mem_of_mem_take hz')⟩
    have hjl : j < len := by
      rcases Nat.lt_or_ge j len with h | h
      · exact h
      · rw [List.getElem?_eq_none (by simp; omega)] at hj; cases hj
    rw [hcell j (by omega)]
    simp only [List.getElem?_map, List.getElem?_take_of_lt hjl] at hj
    rw [List.getElem?_eq_getElem (by omega)] at hj
    simp only [Option.map_some, Option.some.injEq] at hj
    rw [← hj, List.getD_eq_getElem?_getD, List.getElem?_eq_getElem (by omega)]
    rfl
/-- A slice of bytes, as natural numbers. -/
theorem open_bytesR {t e : TypeId} {r : Reach} {b0 : Nat} {W : World} {v : Value} {d : DataW H} {ps : List MemPlace} (ht : P.underlying t = some (.slice e)) (he : P.underlying e = some (.int .u8)) (hc : P.cellsOf e = 1)
    (hval : Value.okWide P W r b0 t v) (hd : DataW.Trod enc P W 0 (fun _ => true) true t v d ps) :
    ∃ A len cap p, v = .slice A len cap ∧ List.length p = len ∧ len ≤ cap ∧ cap ≤ maxLen ∧ Reads W A 1 len (p.map fun (b : Nat) => Value.int .u8 (b : Int)) ∧ ∀ x ∈ p, x < 256 := by
  obtain ⟨A, len, cap, zs, rfl, hl, h1, h2, hr, hw⟩ := open_intsR ht he hc hval hd
  have hb : ∀ z ∈ zs, 0 ≤ z ∧ z ≤ 255 := fun z hz => by simpa [Lit.wf, IntKind.min, IntKind.max, IntKind.signed, IntKind.bits] using hw z hz
  refine ⟨A, len, cap, zs.map Int.toNat, rfl, by simpa using hl, h1, h2, ?_, ?_⟩
  · have e : (zs.map Int.toNat).map (fun (b : Nat) => Value.int .u8 (b : Int)) = zs.map (Value.int .u8) := by
      rw [List.map_map]
      apply List.map_congr_left
      intro z hz
      simp only [Function.comp]
      rw [Int.toNat_of_nonneg (hb z hz).1]
    rw [e]; exact hr
  · intro x hx
    simp only [List.mem_map] at hx
    obtain ⟨z, hz, rfl⟩ := hx
    have := hb z hz
    omega

theorem list_of {α : Type} {Q : Nat → α → Prop} : ∀ (n : Nat), (∀ i, i < n → ∃ x, Q i x) → ∃ l : List α, l.length = n ∧ ∀ i x, l[i]? = some x → Q i x
  | 0, _ => ⟨[], rfl, by simp⟩
  | n + 1, h => by
    obtain ⟨l, hl, hq⟩ := list_of n (fun i hi => h i (by omega))
    obtain ⟨x, hx⟩ := h n (by omega)
    refine ⟨l ++ [x], by simp [hl], fun i y hy => ?_⟩
    by_cases hi : i < l.length
    · rw [List.getElem?_append_left hi] at hy; exact hq i y hy
    · rw [List.getElem?_append_right (by omega)] at hy
      have hil : i = l.length := by
        rcases Nat.eq_or_lt_of_le (Nat.le_of_not_lt hi) with h | h
        · exact h.symm
        · rw [List.getElem?_eq_none (by simp; omega)] at hy; cases hy
      subst hil
      simp at hy
      subst hy
      rw [hl]; exact hx
theorem flatMap_get {α : Type} (g : α → List Value) (s : Nat) (hs : 0 < s) (hg : ∀ x, (g x).length = s) : ∀ (l : List α) (k : Nat), (l.flatMap g)[k]? = (l[k / s]?).bind fun x => (g x)[k % s]?
  | [], k => by simp
  | x :: l, k => by
    rw [List.flatMap_cons]
    by_cases hk : k < s
    · rw [List.getElem?_append_left (by rw [hg]; exact hk), Nat.div_eq_of_lt hk, Nat.mod_eq_of_lt hk]; simp
    · rw [List.getElem?_append_right (by rw [hg]; omega), hg, flatMap_get g s hs hg l (k - s)]
      have e1 : k / s = (k - s) / s + 1 := by rw [Nat.div_eq_sub_div hs (by omega)]
      have e2 : k % s = (k - s) % s := Nat.mod_eq_sub_mod (by omega)
      rw [e1, e2]; simp
theorem flatMap_len {α : Type} (g : α → List Value) (s : Nat) (hg : ∀ x, (g x).length = s) : ∀ (l : List α), (l.flatMap g).length = l.length * s
  | [] => by simp
  | x :: l => by rw [List.flatMap_cons, List.length_append, hg, flatMap_len g s hg l, List.length_cons, Nat.add_mul, Nat.one_mul, Nat.add_comm]
theorem Reads.of_rows {α : Type} {w : World} {a : Addr} {s n : Nat} (g : α → List Value) (hs : 0 < s) (hg : ∀ x, (g x).length = s) (l : List α) (hl : l.length = n)
    (h : ∀ i x, l[i]? = some x → ∀ j u, (g x)[j]? = some u → w.cell? (a.add (i * s + j)) = some u) : Reads w (some a) s n (l.flatMap g) := by
  refine ⟨by rw [flatMap_len g s hg, hl], fun _ => ⟨a, rfl, fun k u hu => ?_⟩⟩
  rw [flatMap_get g s hs hg] at hu
  cases hx : l[k / s]? with
  | none => rw [hx] at hu; cases hu
  | some x =>
    rw [hx] at hu
    have := h (k / s) x hx (k % s) u hu
    rwa [Nat.mul_comm, Nat.div_add_mod] at this

theorem open_slice_fields {W : World} {t e : TypeId} {fs : Array Field} {fuel : Nat} {cs : List Value} {x : DataW H × List MemPlace} (ht : P.underlying t = some (.slice e)) (he : P.underlying e = some (.struct fs))
    (hone : oneCellFields P fs = true) (hC : P.cellsOf e = fs.size) (h : DataW.trod enc P W 0 (fun _ => true) true fuel t cs = some x) :
    (cs = [.slice none 0 0]) ∨
    ∃ (a : Addr) (len cap : Nat), cs = [.slice (some a) len cap] ∧ len ≤ cap ∧ cap ≤ maxLen ∧
      ∀ i, i < len → ∃ (n : Nat), ∀ (j : Nat) (f : Field), fs[j]? = some f → ∃ (v : Value) (y : DataW H × List MemPlace), W.cell? (a.add (i * fs.size + j)) = some v ∧ DataW.trod enc P W 0 (fun _ => true) true n f.type [v] = some y := by
  rcases open_slice ht h with h0 | ⟨a, len, cap, m, n, D, Pl, hcs, hb, hl, hm, hmm, hx, hi⟩
  · exact .inl h0.1
  · refine .inr ⟨a, len, cap, hcs, hl, hm, fun i him => ?_⟩
    simp only [if_true] at hmm
    obtain ⟨cs', hc, ht'⟩ := hi i (by omega)
    rw [hC] at hc
    obtain ⟨ys, n', hn', hy, hlen, hyl, hf⟩ := DataW.trod_struct he ht'
    obtain ⟨_, hcl, hat⟩ := World.cells?_some hc
    refine ⟨n', fun j f hj => ?_⟩
    obtain ⟨ho, hk⟩ := hone_of hone j f hj
    have hjl : j < fs.size := (Array.getElem?_eq_some_iff.1 hj).1
    have hcell := hat j hjl
    have hv : cs'[j]? = some (cs'[j]'(by omega)) := List.getElem?_eq_getElem (by omega)
    have h1 := hf j f hj
    rw [ho, hk] at h1
    have hone' : (cs'.drop j).take 1 = [cs'[j]'(by omega)] := by
      rw [List.drop_eq_getElem_cons (by omega)]
      rfl
    rw [hone'] at h1
    have hys : ys[j]? = some (ys[j]'(by omega)) := List.getElem?_eq_getElem (by omega)
    refine ⟨_, _, ?_, h1.trans hys⟩
    rw [← Go.Deep.add_add, hcell, hv]
/-- A slice of bools. -/
theorem open_boolsR {t e : TypeId} {r : Reach} {b0 : Nat} {W : World} {v : Value} {d : DataW H} {ps : List MemPlace} (ht : P.underlying t = some (.slice e)) (he : P.underlying e = some .bool) (hc : P.cellsOf e = 1)
    (hval : Value.okWide P W r b0 t v) (hd : DataW.Trod enc P W 0 (fun _ => true) true t v d ps) :
    ∃ A len cap bs, v = .slice A len cap ∧ List.length bs = len ∧ len ≤ cap ∧ cap ≤ maxLen ∧ Reads W A 1 len (bs.map Value.bool) := by
  obtain ⟨a0, len, cap, rfl⟩ := okWide_slice ht hval
  obtain ⟨fuel, hf⟩ := hd
  rcases open_slice ht hf with ⟨hcs, _⟩ | ⟨a, len', cap', m, n, D, Pl, hcs, _, hl, hm, hmm, _, hi⟩
  · simp [Value.cells] at hcs
    obtain ⟨rfl, rfl, rfl⟩ := hcs
    exact ⟨none, 0, 0, [], rfl, rfl, Nat.le_refl _, Nat.zero_le _, Reads.none_⟩
  · simp [Value.cells] at hcs
    obtain ⟨rfl, rfl, rfl⟩ := hcs
    simp only [if_true] at hmm
    obtain ⟨bs, hbl, hq⟩ := list_of (α := Bool) (Q := fun i b => W.cell? (a.add i) = some (.bool b)) len (fun i hlt => by
      obtain ⟨cs', hcc, ht'⟩ := hi i (by omega)
      rw [hc, Nat.mul_one] at hcc
      obtain ⟨b, rfl, _⟩ := DataW.trod_bool he ht'
      obtain ⟨_, _, hat⟩ := World.cells?_some hcc
      have := hat 0 (by omega)
      refine ⟨b, ?_⟩
      simpa [Addr.add] using this)
    refine ⟨some a, len, cap, bs, rfl, hbl, hl, hm, ⟨by simp; omega, fun _ => ⟨a, rfl, fun j u hj => ?_⟩⟩⟩
    simp only [List.getElem?_map] at hj
    cases hb : bs[j]? with
    | none => rw [hb] at hj; cases hj
    | some b => rw [hb] at hj; simp at hj; subst hj; exact hq j b hb
end
end Go.Proofs.YtmjjdehicngffaaDoor
