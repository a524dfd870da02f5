/- Contract of the laws' helper 'given'. -/
import Derived.Test.YtmghfhjiodeaeaaU1
namespace Go.Proofs.Ytmghfhjiodeaeaa
open Go.RowKit

theorem info_un : (Try.prog.info? 60).map (fun i => (i.zero, i.size, i.bytes)) = some (some (.agg (u4 ⟨0, 0, 0, 0⟩).toArray), 4, 32) := by kernel_rfl
theorem fill_one {s : Nat} (hs : 0 < s) (cs cells : Array Value) (h1 : cs.size = s) (h2 : cells.size = s) : Instr.fill (fun i => some (i * s, s)) cells [(0, .agg cs)] = some cs := by
  obtain ⟨r, hr, hz, hk⟩ := Go.Great.fill_dense hs [.agg cs] 0 cells (by simp [Value.cells, h1]) (by simp [h2])
  rw [show ((List.zipIdx [Value.agg cs] 0).map fun x => (x.2, x.1)) = [(0, .agg cs)] from rfl] at hr
  rw [hr]
  congr 1
  apply Array.ext_getElem?
  intro k
  rw [hk k]
  by_cases h : k < s
  · rw [if_pos (by simpa using h), Nat.div_eq_of_lt h, Nat.mod_eq_of_lt h]; simp [Value.cells]
  · rw [if_neg (by simpa using h), Array.getElem?_eq_none (by omega), Array.getElem?_eq_none (by omega)]
/-- A slice literal of one element that is a struct. -/
theorem wpList_bs1 {P : Program} {ops : Array Oper} {rest : List Oper} {o : Oper} {a : Act} {w : World} {Q : Exit → Act → World → Prop} {cs : Array Value} {s : Nat} (hg : o.guard = none) (t e : TypeId) (X : Operand) (ho : o.op = .buildSlice t 1 #[(0, X)]) (hx : a.eval X = .agg cs)
    (ie : TypeInfo) (z : Value) (hu : P.underlying t = some (.slice e)) (hie : P.info? e = some ie) (hz : ie.zero = some z) (hs : ie.size = s) (h1 : cs.size = s) (h2 : z.cells.size = s) (h3 : 0 < s ∧ s ≤ 1000)
    (h : wpList P ops Q rest (a.put o.dst (.slice (some ⟨w.heap.size, 0, none⟩) 1 1)) (w.alloc (.cells cs e))) : wpList P ops Q (o :: rest) a w := by
  subst hs
  refine wpList_buildSlice hg t e 1 _ ho cs ie z hu hie hz (by omega) (by omega) ?_ h
  simp only [List.map_toArray, List.map_cons, List.map_nil, hx]
  exact fill_one h3.1 _ _ h1 (by simp)
theorem given_any (w : World) (A : Option Addr) (c : Nat) (us : List Un) (hr : Reads w A 4 us.length (uV us)) (hn : us.length ≤ 300) :
    Calls Try.prog 19 #[.slice A us.length c] w fun e w' =>
      ∃ A' c', e = .returned (.slice A' us.length c') ∧ w'.ownsRow 0 60 4 (.slice A' us.length c') us.length (uV us) ∧ Only [] w w' ∧ Fresh w [] (rowFp (.slice A' us.length c')) := by
  obtain ⟨i0, hi0, hz0, hz1, hz2⟩ := info_parts info_un
  have Hr := Lib.hid hr
  clear hr
  go_enter Try.func19, Try.ntmps19
  go_wp2
  go_loopw [3, 4] (fun s i wr => ∃ k : Nat, k ≤ us.length ∧ i = .int .i64 (k : Int) ∧ ∃ A c, s = .slice A k c ∧ Hid (wr.ownsRow 0 60 4 (.slice A k c) k (uV (us.take k))) ∧ Only [] w wr ∧ Fresh w [] (rowFp (.slice A k c))) (fun _ i _ => us.length - (intOf i).toNat)
  case atStart => exact ⟨0, Nat.zero_le _, by simp, none, 0, rfl, World.ownsRow_nil _ _ _ _, Only.refl _ _, by simp [Fresh, rowFp, Value.ownBlock]⟩
  case round =>
    obtain ⟨k, hk, rfl, A1, c1, rfl, Hown, ho, hf⟩ := hrel
    by_cases hlt : k < us.length
    · obtain ⟨x, hx⟩ : ∃ x, us[k]? = some x := ⟨_, List.getElem?_eq_getElem hlt⟩
      obtain ⟨b, off, rfl, hc0, hc1, hc2, hc3⟩ := Hr.out.un rfl hx
      have htk : us.take (k + 1) = us.take k ++ [x] := by rw [List.take_add_one, hx]; rfl
      have Htk := Lib.hid htk
      have f0 : ∀ w', Cls w w' → w'.cell? ⟨b, off + k * 4, none⟩ = some (.int .i64 x.a) := fun w' h => h.cell hc0
      have f1 : ∀ w', Cls w w' → w'.cell? ⟨b, off + k * 4 + 1, none⟩ = some (.int .i64 x.b) := fun w' h => h.cell hc1
      have f2 : ∀ w', Cls w w' → w'.cell? ⟨b, off + k * 4 + 2, none⟩ = some (.int .i64 x.c) := fun w' h => h.cell hc2
      have f3 : ∀ w', Cls w w' → w'.cell? ⟨b, off + k * 4 + 3, none⟩ = some (.int .i64 x.d) := fun w' h => h.cell hc3
      have hkl : (k : Int) < (us.length : Int) := by omega
      clear hc0 hc1 hc2 hc3 htk hx
      go_wp2_with fail
      refine rgnM (Cls w) [(0, true), (1, true), (2, true), (3, true), (4, true), (5, true), (6, true), (7, true), (8, true), (9, true), (10, true), (11, true), (12, true), (13, true), (14, true), (15, true), (16, true), (17, true), (18, true), (19, true), (20, true), (21, true), (22, false), (23, false), (24, true)] (by kernel_rfl) (by kernel_rfl) ho.drew ?_
      simp only [pickL, nth]
      repeat (first | (refine mU rfl ?_; simp only [Act.put, List.setIfInBounds_toArray, List.set_cons_zero, List.set_cons_succ]) | (refine mW ?_ rfl rfl (fun w hC K hK => ?_) rfl ?_; rotate_left; (focus ((go_wp2_with fail) <;> exact hK)); simp only [Act.put, List.setIfInBounds_toArray, List.set_cons_zero, List.set_cons_succ]))
      refine mX ?_
      refine wpList_bs1 rfl 36 60 _ rfl (cs := (u4 x).toArray) rfl i0 (.agg (u4 ⟨0, 0, 0, 0⟩).toArray) Try.underlying36 hi0 hz0 hz1 rfl rfl (by decide) ?_
      refine mS (Only.then ho.drew ((Only.refl _ _).alloc _)) ?_
      simp only [Act.put, List.setIfInBounds_toArray, List.set_cons_zero, List.set_cons_succ]
      refine mX ?_
      refine wpList_app _ rfl _ _ 36 rfl 60 i0 (.agg (u4 ⟨0, 0, 0, 0⟩).toArray) 4 32 Try.underlying36 hi0 hz0 hz1 hz2 rfl (by decide) _ _ _ (uV (us.take k)) rfl (by exact own_only Hown.out ((Only.refl [] _).drew.alloc _) (fun _ _ => List.not_mem_nil)) _ 1 1 (u4 x) rfl ?c1 ?c2 ?c3 ?c4 ?_
      case c1 => exact ⟨rfl, fun _ => ⟨_, rfl, fun j u hu => by rw [add_plain, (Blk.new _ _ _).cell]; simpa using hu⟩⟩
      case c2 => intro u hu; exact uV_one [x] u (by simpa [uV] using hu)
      case c3 => unfold maxLen; omega
      case c4 => omega
      intro A' c' w1 hown1 ho1 hf1
      have how : Only [] w w1 := (ho.drew.alloc _).trans ho1 hf
      refine mS how ?_
      simp only [Act.put, List.setIfInBounds_toArray, List.set_cons_zero, List.set_cons_succ]
      repeat (first | (refine mU rfl ?_; simp only [Act.put, List.setIfInBounds_toArray, List.set_cons_zero, List.set_cons_succ]) | (refine mW ?_ rfl rfl (fun w hC K hK => ?_) rfl ?_; rotate_left; (focus ((go_wp2_with fail) <;> exact hK)); simp only [Act.put, List.setIfInBounds_toArray, List.set_cons_zero, List.set_cons_succ]))
      refine mN ?_
      go_wp2_with fail
      go_roundw
      case rel =>
        refine ⟨k + 1, by omega, by go_num, A', c', rfl, ?_, how, ?_⟩
        · show World.ownsRow _ _ _ _ _ _ _
          rw [Htk.out, uV_append, show uV [x] = u4 x by simp [uV]]
          exact hown1
        · exact hf.trans (ho.drew.alloc _).size hf1
      case measure => simp [intOf]; omega
    · have hke : k = us.length := by omega
      subst hke
      go_wp2_with fail
      go_ret
      exact ⟨_, _, rfl, by have := Hown.out; rwa [List.take_length] at this, ho, hf⟩
end Go.Proofs.Ytmghfhjiodeaeaa
