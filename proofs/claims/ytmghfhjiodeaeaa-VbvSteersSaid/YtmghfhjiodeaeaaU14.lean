/- Contract of the laws' helper 'padded'. -/
import Derived.Test.YtmghfhjiodeaeaaP6
namespace Go.Proofs.Ytmghfhjiodeaeaa
open Go.RowKit

/-- A slice literal of no element. -/
theorem wpList_bs0 {P : Program} {ops : Array Oper} {rest : List Oper} {o : Oper} {a : Act} {w : World} {Q : Exit → Act → World → Prop} (hg : o.guard = none) (t e : TypeId) (ho : o.op = .buildSlice t 0 #[])
    (ie : TypeInfo) (hu : P.underlying t = some (.slice e)) (hie : P.info? e = some ie)
    (h : wpList P ops Q rest (a.put o.dst (.slice (some ⟨w.heap.size, 0, none⟩) 0 0)) (w.alloc (.cells #[] e))) : wpList P ops Q (o :: rest) a w := by
  refine wpList_plain hg fun K hK => ?_
  have hrun : (Instr.buildSlice t 0 #[]).run P w = .ok (.slice (some ⟨w.heap.size, 0, none⟩) 0 0) (w.alloc (.cells #[] e)) := by
    simp [Instr.buildSlice, run_underlying hu, sizeOf, typeInfo, hie, newRow, Instr.fill]
    rw [show Array.map (fun _ => (default : Value)) (Array.range 0) = #[] from Array.eq_empty_of_size_eq_zero (by simp)]
  unfold Oper.wp execOp
  simp only [ho, Sem.run_bind, List.map_toArray, List.map_nil, hrun, Result.andThen_ok]
  exact hK _ _ h
theorem own_empty (w : World) (e : TypeId) : (w.alloc (.cells #[] e)).ownsRow 0 e 4 (.slice (some ⟨w.heap.size, 0, none⟩) 0 0) 0 [] :=
  ⟨rfl, .inr ⟨w.heap.size, 0, #[], rfl, Nat.zero_le _, heap_alloc_new w _, Nat.le_refl _, Nat.zero_le _, rfl, rfl⟩⟩
theorem uV_set : ∀ {l : List Un} {i : Nat} {x : Un}, l[i]? = some x → ∀ c : Int, (uV l).set (i * 4 + 2) (.int .i64 c) = uV (l.set i ⟨x.a, x.b, c, x.d⟩)
  | [], i, x, h, c => by simp at h
  | y :: l, 0, x, h, c => by simp at h; subst h; rfl
  | y :: l, i + 1, x, h, c => by
    have ih := uV_set (l := l) (i := i) (x := x) (by simpa using h) c
    have e : uV (y :: l) = .int .i64 y.a :: .int .i64 y.b :: .int .i64 y.c :: .int .i64 y.d :: uV l := rfl
    rw [e, show (i + 1) * 4 + 2 = i * 4 + 2 + 1 + 1 + 1 + 1 by omega]
    simp only [List.set_cons_succ]
    rw [ih]; rfl
/-- How far the loop has come. -/
structure MX (us : List Un) (ns : List Int) (k : Nat) (m : List Un) : Prop where
  len : m.length = us.length
  get : ∀ i, m[i]? = if i < k then (pu us ns)[i]? else us[i]?
theorem MX.start (us : List Un) (ns : List Int) : MX us ns 0 us := ⟨rfl, fun i => by rw [if_neg (by omega)]⟩
theorem MX.step {us : List Un} {ns : List Int} {k : Nat} {m : List Un} {x : Un} {q : Int} (h : MX us ns k m) (hx : us[k]? = some x) (hq : ns[k]? = some q) : m[k]? = some x ∧ MX us ns (k + 1) (m.set k (pad1 x q)) := by
  have hlt : k < us.length := (List.getElem?_eq_some_iff.1 hx).1
  refine ⟨by rw [h.get, if_neg (by omega), hx], by simp [h.len], fun i => ?_⟩
  rw [List.getElem?_set]
  by_cases hi : k = i
  · subst hi
    rw [if_pos rfl, if_pos (by rw [h.len]; exact hlt), if_pos (by omega), pu_get hx hq]
  · rw [if_neg hi, h.get]
    by_cases h2 : i < k
    · rw [if_pos h2, if_pos (by omega)]
    · rw [if_neg h2, if_neg (by omega)]
theorem MX.done {us : List Un} {ns : List Int} {m : List Un} (h : MX us ns us.length m) (hl : ns.length = us.length) : m = pu us ns := by
  apply List.ext_getElem?
  intro i
  rw [h.get]
  by_cases hi : i < us.length
  · rw [if_pos hi]
  · rw [if_neg hi, List.getElem?_eq_none (by omega), List.getElem?_eq_none (by rw [pu_len hl]; omega)]
theorem own_un {w : World} {e : TypeId} {g cp n : Nat} {m : List Un} {k : Nat} {x : Un} (h : w.ownsRow 0 e 4 (.slice (some ⟨g, 0, none⟩) n cp) n (uV m)) (hx : m[k]? = some x) : w.cell? ⟨g, k * 4 + 2, none⟩ = some (.int .i64 x.c) := by
  have := h.cells (g := g) rfl (k * 4 + 2) _ (uV_get hx).2.2.1
  rwa [add_plain, Nat.zero_add] at this
theorem own_st {w : World} {e : TypeId} {g cp n : Nat} {m : List Un} {k : Nat} {x : Un} (h : w.ownsRow 0 e 4 (.slice (some ⟨g, 0, none⟩) n cp) n (uV m)) (hx : m[k]? = some x) (c : Int) :
    (w.setCell ⟨g, k * 4 + 2, none⟩ (.int .i64 c)).ownsRow 0 e 4 (.slice (some ⟨g, 0, none⟩) n cp) n (uV (m.set k ⟨x.a, x.b, c, x.d⟩)) := by
  have := (h.stored (k * 4 + 2) (.int .i64 c)).1
  rwa [uV_set hx] at this
set_option maxHeartbeats 2000000 in
set_option maxRecDepth 100000 in
theorem padded_any (w : World) (A : Option Addr) (c : Nat) (us : List Un) (hr : Reads w A 4 us.length (uV us)) (hn : us.length ≤ 300) (hu : ∀ x ∈ us, 0 ≤ x.c ∧ x.c ≤ 8388608)
    (P : Option Addr) (cp : Nat) (ns : List Int) (hp : Reads w P 1 ns.length (iV ns)) (hq : ∀ q ∈ ns, 0 ≤ q ∧ q ≤ 35184372088832) (hl : ns.length = us.length) :
    Calls Try.prog 29 #[.slice A us.length c, .slice P ns.length cp] w fun e w' =>
      ∃ A' c', e = .returned (.slice A' us.length c') ∧ w'.ownsRow 0 60 4 (.slice A' us.length c') us.length (uV (pu us ns)) ∧ Only [] w w' ∧ Fresh w [] (rowFp (.slice A' us.length c')) := by
  obtain ⟨i0, hi0, hz0, hz1, hz2⟩ := info_parts info_un
  have Hr := Lib.hid hr
  have Hp := Lib.hid hp
  have Hu := Lib.hid hu
  have Hq := Lib.hid hq
  have Hl := Lib.hid hl
  clear hr hp hu hq hl
  go_enter Try.func29, Try.ntmps29
  have tok : True := trivial
  go_wp2_with (first | (clear tok; refine wpList_bs0 rfl 36 60 rfl i0 Try.underlying36 hi0 ?_) | (at_builtin; refine wpList_app _ rfl _ _ 36 rfl 60 i0 (.agg (u4 ⟨0, 0, 0, 0⟩).toArray) 4 32 Try.underlying36 hi0 hz0 hz1 hz2 rfl (by decide) _ _ _ _ rfl (own_empty _ _) A us.length c (uV us) rfl (Hr.out.alloc _) (uV_one us) ?c3 ?c4 ?_))
  case c3 => unfold maxLen; omega
  case c4 => omega
  intro A1 c1 w1 own1 o1 f1
  have ho1 : Only [] w w1 := ((Only.refl _ _).alloc _).trans o1 (fun k hk => by simp [rowFp, Value.ownBlock] at hk; subst hk; exact .inr (Nat.le_refl _))
  have hf1 : Fresh w [] (rowFp (.slice A1 us.length c1)) := fun k hk => by
    rcases f1 k hk with h | h
    · simp [rowFp, Value.ownBlock] at h; subst h; exact .inr (Nat.le_refl _)
    · exact .inr (by simp at h; omega)
  have Hf1 := Lib.hid hf1
  have Hown := Lib.hid (show w1.ownsRow 0 60 4 (.slice A1 us.length c1) us.length (uV us) from own1)
  clear own1 o1 f1 hf1
  go_wp2_with fail
  go_loopw [6] (fun i wr => ∃ k : Nat, k ≤ us.length ∧ i = .int .i64 (k : Int) ∧ ∃ m, Hid (MX us ns k m) ∧ Hid (wr.ownsRow 0 60 4 (.slice A1 us.length c1) us.length (uV m)) ∧ Only [] w wr) (fun i _ => us.length - (intOf i).toNat)
  case atStart => exact ⟨0, Nat.zero_le _, rfl, us, MX.start _ _, Hown, ho1⟩
  case round =>
    obtain ⟨k, hk, rfl, m, HM, Hown2, ho⟩ := hrel
    by_cases hlt : k < us.length
    · obtain ⟨x, hx⟩ : ∃ x, us[k]? = some x := ⟨_, List.getElem?_eq_getElem hlt⟩
      obtain ⟨q, hq⟩ : ∃ q, ns[k]? = some q := ⟨_, List.getElem?_eq_getElem (by rw [Hl.out]; exact hlt)⟩
      obtain ⟨hmk, hM⟩ := HM.out.step hx hq
      have hxb := Hu.out x (List.mem_of_getElem? hx)
      have hqb := Hq.out q (List.mem_of_getElem? hq)
      obtain ⟨g, cg, hA, _⟩ := own_form1 Hown2.out (by omega)
      obtain ⟨rfl, rfl⟩ : A1 = some ⟨g, 0, none⟩ ∧ c1 = cg := by injection hA with h1 h2 h3; exact ⟨h1, h3⟩
      obtain ⟨bp, offp, rfl, cP⟩ := (Hp.out.then ho).int hq
      have cO := own_un Hown2.out hmk
      have hkl : (k : Int) < (us.length : Int) := by omega
      have hkn : (k : Int) < (ns.length : Int) := by have := Hl.out; omega
      have fP : ∀ w', Cls wr w' → w'.cell? ⟨bp, offp + k, none⟩ = some (.int .i64 q) := fun w' h => h.cell cP
      have fO : ∀ w', Cls wr w' → w'.cell? ⟨g, k * 4 + 2, none⟩ = some (.int .i64 x.c) := fun w' h => h.cell cO
      have HMk := Lib.hid hmk
      have HM' := Lib.hid hM
      clear hx hq hmk hM cP cO hA
      go_wp2_with fail
      refine rgnT (Cls wr) 13 (by kernel_rfl) (by kernel_rfl) Cls.refl ?_
      simp only [List.take_succ_cons, List.take_zero, List.drop_succ_cons, List.drop_zero]
      repeat (first | (refine qU rfl ?_; simp only [Act.put, List.setIfInBounds_toArray, List.set_cons_zero, List.set_cons_succ]) | (refine qW ?_ rfl rfl (fun w hC K hK => ?_) ?_; rotate_left; (focus ((go_wp2_with fail) <;> exact hK _ hC)); simp only [Act.put, List.setIfInBounds_toArray, List.set_cons_zero, List.set_cons_succ]))
      refine qN ?_
      intro w' hw'
      have own3 := own_only Hown2.out hw'.only (fun _ _ => List.not_mem_nil)
      have cO := fO _ hw'
      have zO := own3.frozenAt (k * 4 + 2)
      have own4 := own_st own3 HMk.out (x.c + 8 * q)
      have ho4 : Only [] w (w'.setCell ⟨g, k * 4 + 2, none⟩ (.int .i64 (x.c + 8 * q))) := (ho.then hw'.only).setCell (.inr ((Hf1.out g (by simp [rowFp, Value.ownBlock])).resolve_left (by simp))) _
      have Hown4 := Lib.hid own4
      have Ho4 := Lib.hid ho4
      clear own3 own4 ho4 hw' fO fP
      go_wp2_with fail
      go_roundw
      case rel => exact ⟨k + 1, by omega, by go_num, _, HM', Hown4, Ho4.out⟩
      case measure => simp [intOf]; omega
    · have hke : k = us.length := by omega
      subst hke
      have HD := Lib.hid (HM.out.done Hl.out)
      go_wp2_with fail
      go_ret
      exact ⟨_, _, rfl, by rw [← HD.out]; exact Hown2.out, ho, Hf1.out⟩
end Go.Proofs.Ytmghfhjiodeaeaa
