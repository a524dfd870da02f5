/- The reference's Proper, block and summed. -/
import Derived.Test.YtmojlfgfaabegaaA7
namespace Go.Proofs.Ytmojlfgfaabegaa
open Go.RowKit bt

theorem head_get {α : Type} {ls : List α} {d x : α} (h : ls[0]? = some x) : ls.headD d = x := by
  cases ls with
  | nil => simp at h
  | cons y m => simp at h; subst h; rfl
set_option maxRecDepth 100000 in
set_option maxHeartbeats 2000000 in
theorem refProper_any (w : World) (A : Option Addr) (c : Nat) (hs : List (Option Addr × Nat)) (ls : List (List Int)) (h : PcmIs w A hs ls) (hn : ls.length ≤ 1099511627776) (hm : ∀ l ∈ ls, l.length ≤ 1099511627776) :
    Calls Try.prog 31 #[.slice A ls.length c] w fun e w' => e = .returned (.bool (pr ls 1048576)) ∧ Only [] w w' := by
  have HP := Lib.hid h
  have HM := Lib.hid hm
  clear h hm
  go_enter Try.func31, Try.ntmps31
  by_cases h1 : ls.length < 1
  · have HE := Lib.hid (pr_len (ls := ls) (most := 1048576) (by omega))
    have h1' : (ls.length : Int) < 1 := by omega
    clear h1
    go_wp2_with fail
    go_ret
    exact ⟨by rw [HE.out]; rfl, Only.refl _ _⟩
  by_cases h2 : 4 < ls.length
  · have HE := Lib.hid (pr_len (ls := ls) (most := 1048576) (by omega))
    have hd1 : decide ((ls.length : Int) < 1) = false := decide_eq_false (by omega)
    have h2' : (4 : Int) < (ls.length : Int) := by omega
    clear h1 h2
    go_wp2_with fail
    go_ret
    exact ⟨by rw [HE.out]; rfl, Only.refl _ _⟩
  have hd1 : decide ((ls.length : Int) < 1) = false := decide_eq_false (by omega)
  have hd2 : decide ((4 : Int) < (ls.length : Int)) = false := decide_eq_false (by omega)
  have hl1 : 1 ≤ ls.length := by omega
  have hl4 : ls.length ≤ 4 := by omega
  clear h1 h2
  obtain ⟨l0, hl0⟩ : ∃ l0, ls[0]? = some l0 := ⟨_, List.getElem?_eq_getElem (by omega)⟩
  obtain ⟨b, off, B0, cB0, rfl, c0, _, _⟩ := HP.out.at_ hl0
  rw [Nat.add_zero] at c0
  have hz : (0 : Int) < (ls.length : Int) := by omega
  have hlm := HM.out l0 (List.mem_of_getElem? hl0)
  have Hl0 := Lib.hid hl0
  have Hhd := Lib.hid (show ls.headD [] = l0 from head_get hl0)
  clear hl0
  by_cases h3 : 1048576 < l0.length
  · have HE := Lib.hid (pr_bad (most := 1048576) Hl0.out (fun h => by omega))
    have h3' : (1048576 : Int) < (l0.length : Int) := by omega
    clear h3
    go_wp2_with fail
    go_ret
    exact ⟨by rw [HE.out]; rfl, Only.refl _ _⟩
  have hd3 : decide ((1048576 : Int) < (l0.length : Int)) = false := decide_eq_false (by omega)
  have hl0m : l0.length ≤ 1048576 := by omega
  clear h3
  go_wp2_with fail
  clear hd1 hd2 hd3 c0
  go_loopw [3] (fun i wr => ∃ k : Nat, k ≤ ls.length ∧ i = .int .i64 (k : Int) ∧ Hid (∀ j l, j < k → ls[j]? = some l → l.length = l0.length) ∧ Hid (Only [] w wr)) (fun i _ => ls.length - (intOf i).toNat)
  case atStart => exact ⟨0, Nat.zero_le _, rfl, Lib.hid (fun j l hj => by omega), Lib.hid (Only.refl _ _)⟩
  case round =>
    obtain ⟨k, hk, rfl, HA, HO⟩ := hrel
    by_cases hlt : k < ls.length
    · obtain ⟨l, hl⟩ : ∃ l, ls[k]? = some l := ⟨_, List.getElem?_eq_getElem hlt⟩
      obtain ⟨b', off', B, cB, hA, c1, _, _⟩ := (HP.out.then HO.out).at_ hl
      injection hA with hA
      injection hA with hA1 hA2
      subst hA1 hA2
      obtain ⟨b', off', B0, c0, hA, c2, _, _⟩ := (HP.out.then HO.out).at_ Hl0.out
      injection hA with hA
      injection hA with hA1 hA2
      subst hA1 hA2
      rw [Nat.add_zero] at c2
      have hki : (k : Int) < (ls.length : Int) := by omega
      have hlm2 := HM.out l (List.mem_of_getElem? hl)
      have Hl := Lib.hid hl
      clear hl
      by_cases he : l.length = l0.length
      · have HA2 := Lib.hid (show ∀ j m, j < k + 1 → ls[j]? = some m → m.length = l0.length from fun j m hj hm => by
          by_cases hjk : j = k
          · subst hjk; rw [Hl.out] at hm; cases hm; exact he
          · exact HA.out j m (by omega) hm)
        have hne : ((l.length : Int) != (l0.length : Int)) = false := by simp; omega
        clear he
        go_wp2_with fail
        go_region
        all_goals go_wp2_with fail
        go_roundw
        case rel => exact ⟨k + 1, by omega, by go_num, HA2, Lib.hid HO.out.drew⟩
        case measure => simp [intOf]; omega
      · have HE := Lib.hid (pr_bad (most := 1048576) Hl.out (fun h => he (by rw [Hhd.out] at h; exact h.1)))
        have hne : ((l.length : Int) != (l0.length : Int)) = true := by simp; omega
        clear he
        go_wp2_with fail
        go_region
        all_goals go_wp2_with fail
        go_ret
        exact ⟨by rw [HE.out]; rfl, HO.out.drew⟩
    · have hke : k = ls.length := by omega
      subst hke
      have HE := Lib.hid (show pr ls 1048576 = true from pr_true.2 ⟨hl1, hl4, fun l hl => by
        obtain ⟨j, hj⟩ := List.getElem?_of_mem hl
        have := HA.out j l ((List.getElem?_eq_some_iff.1 hj).1) hj
        rw [Hhd.out]; exact ⟨this, by omega⟩⟩)
      go_wp2_with fail
      go_ret
      exact ⟨by rw [HE.out]; rfl, HO.out⟩
theorem pr_block {ls : List (List Int)} : (pr ls 1048576 = true ∧ 1 ≤ (ls.headD []).length ∧ (ls.headD []).length ≤ 32) ↔ (pr ls 32 = true ∧ (ls.headD []).length ≠ 0) := by
  rw [pr_true, pr_true]
  constructor
  · rintro ⟨⟨h1, h2, h3⟩, h4, h5⟩
    exact ⟨⟨h1, h2, fun l hl => ⟨(h3 l hl).1, by have := (h3 l hl).1; omega⟩⟩, by omega⟩
  · rintro ⟨⟨h1, h2, h3⟩, h4⟩
    refine ⟨⟨h1, h2, fun l hl => ⟨(h3 l hl).1, by have := (h3 l hl).2; omega⟩⟩, by omega, ?_⟩
    have : ls.headD [] ∈ ls := by
      cases ls with
      | nil => simp at h1
      | cons y m => simp
    have := (h3 _ this).2
    omega
/-- Whether sound is a block. -/
def blk (ls : List (List Int)) : Bool := decide (pr ls 32 = true ∧ (ls.headD []).length ≠ 0)
set_option maxHeartbeats 1000000 in
theorem refBlock_any (w : World) (A : Option Addr) (c : Nat) (hs : List (Option Addr × Nat)) (ls : List (List Int)) (h : PcmIs w A hs ls) (hn : ls.length ≤ 1099511627776) (hm : ∀ l ∈ ls, l.length ≤ 1099511627776) :
    Calls Try.prog 49 #[.slice A ls.length c] w fun e w' => e = .returned (.bool (blk ls)) ∧ Only [] w w' := by
  have HP := Lib.hid h
  have HC := Lib.hid (refProper_any w A c hs ls h hn hm)
  have HM := Lib.hid hm
  clear h hm
  go_enter Try.func49, Try.ntmps49
  go_wp2_with fail
  refine HC.out.mono ?_
  rintro e w1 ⟨rfl, o1⟩
  cases hp : pr ls 1048576 with
  | false =>
    have HE := Lib.hid (show blk ls = false from decide_eq_false (fun h => by have := (pr_block.2 h).1; rw [hp] at this; cases this))
    clear hp
    go_wp2_with fail
    go_ret
    exact ⟨by rw [HE.out]; rfl, o1⟩
  | true =>
    obtain ⟨hl1, hl4, hall⟩ := pr_true.1 hp
    obtain ⟨l0, hl0⟩ : ∃ l0, ls[0]? = some l0 := ⟨_, List.getElem?_eq_getElem (by omega)⟩
    obtain ⟨b, off, B0, cB0, rfl, c0, _, _⟩ := (HP.out.then o1).at_ hl0
    rw [Nat.add_zero] at c0
    have hz : (0 : Int) < (ls.length : Int) := by omega
    have hlm := HM.out l0 (List.mem_of_getElem? hl0)
    have Hhd := Lib.hid (show ls.headD [] = l0 from head_get hl0)
    have Hp := Lib.hid hp
    clear hl0 hp hall
    by_cases h1 : 1 ≤ l0.length
    · have h1' : (1 : Int) ≤ (l0.length : Int) := by omega
      by_cases h2 : l0.length ≤ 32
      · have HE := Lib.hid (show blk ls = true from decide_eq_true (pr_block.1 ⟨Hp.out, by rw [Hhd.out]; exact ⟨h1, h2⟩⟩))
        have h2' : (l0.length : Int) ≤ 32 := by omega
        clear h1 h2
        go_wp2_with fail
        go_ret
        exact ⟨by rw [HE.out]; rfl, o1⟩
      · have HE := Lib.hid (show blk ls = false from decide_eq_false (fun h => by have := (pr_block.2 h).2.2; rw [Hhd.out] at this; omega))
        have h2' : decide ((l0.length : Int) ≤ 32) = false := decide_eq_false (by omega)
        clear h1 h2
        go_wp2_with fail
        go_ret
        exact ⟨by rw [HE.out]; rfl, o1⟩
    · have HE := Lib.hid (show blk ls = false from decide_eq_false (fun h => by have := (pr_block.2 h).2.1; rw [Hhd.out] at this; omega))
      have h1' : decide ((1 : Int) ≤ (l0.length : Int)) = false := decide_eq_false (by omega)
      clear h1
      go_wp2_with fail
      go_ret
      exact ⟨by rw [HE.out]; rfl, o1⟩
/-- A slice literal of no element. -/
theorem wpList_bs0 {P : Program} {ops : Array Oper} {rest : List Oper} {o : Oper} {a : Act} {w : World} {Q : Exit → Act → World → Prop} (hg : o.guard = none) (t e : TypeId) (ho : o.op = .buildSlice t 0 #[])
    (ie : TypeInfo) (hu : P.underlying t = some (.slice e)) (hie : P.info? e = some ie)
    (h : wpList P ops Q rest (a.put o.dst (.slice (some ⟨w.heap.size, 0, none⟩) 0 0)) (w.alloc (.cells #[] e))) : wpList P ops Q (o :: rest) a w := by
  refine wpList_plain hg fun K hK => ?_
  have hrun : (Instr.buildSlice t 0 #[]).run P w = .ok (.slice (some ⟨w.heap.size, 0, none⟩) 0 0) (w.alloc (.cells #[] e)) := by
    simp [Instr.buildSlice, run_underlying hu, sizeOf, typeInfo, hie, newRow, Instr.fill]
    rw [show Array.map (fun _ => (default : Value)) (Array.range 0) = #[] from Array.eq_empty_of_size_eq_zero (by simp)]
  unfold Oper.wp execOp
  simp only [ho, Sem.run_bind, List.map_toArray, List.map_nil, hrun, Result.andThen_ok]
  exact hK _ _ h
theorem own_empty (w : World) (e : TypeId) (s : Nat) : (w.alloc (.cells #[] e)).ownsRow 0 e s (.slice (some ⟨w.heap.size, 0, none⟩) 0 0) 0 [] :=
  ⟨by simp, .inr ⟨w.heap.size, 0, #[], rfl, Nat.zero_le _, heap_alloc_new w _, Nat.le_refl _, Nat.zero_le _, by simp, by simp⟩⟩
theorem sm_len (p : List Nat) : (sm p).length = p.length + 2 := by simp [sm]
theorem sm_lt {p : List Nat} (h : ∀ x ∈ p, x < 256) : ∀ x ∈ sm p, x < 256 := by
  intro x hx
  unfold sm at hx
  rcases List.mem_append.1 hx with h' | h'
  · exact h x h'
  · have := crc_lt p; simp at h'; omega
set_option maxRecDepth 100000 in
set_option maxHeartbeats 1000000 in
theorem summed_any (w : World) (A : Option Addr) (c : Nat) (p : List Nat) (hr : Reads w A 1 p.length (bytesV p)) (hp : ∀ x ∈ p, x < 256) (hl : p.length ≤ 1000000000) :
    Calls Try.prog 37 #[.slice A p.length c] w fun e w' => ∃ A' c', e = .returned (.slice A' (p.length + 2) c') ∧ w'.ownsRow 0 5 1 (.slice A' (p.length + 2) c') (p.length + 2) (bytesV (sm p)) ∧ Only [] w w' ∧ Fresh w [] (rowFp (.slice A' (p.length + 2) c')) := by
  obtain ⟨i0, hi0, hz0, hz1, hz2⟩ := info_parts info_u8
  have hlt := crc_lt p
  have HS := Lib.hid (refSum_any w A c p hr hp (by omega))
  have Hr := Lib.hid hr
  have Hsm := Lib.hid (show sm p = p ++ [crc p / 256, crc p % 256] from rfl)
  clear hr hp
  go_enter Try.func37, Try.ntmps37
  go_wp2_with fail
  refine HS.out.mono ?_
  rintro e w1 ⟨rfl, rfl⟩
  generalize crc p = r at hlt Hsm ⊢
  have e1 : (r : Int) / 256 = ((r / 256 : Nat) : Int) := by omega
  have e2 : (r : Int) % 256 = ((r % 256 : Nat) : Int) := by omega
  have e3 : IntKind.u8.wrap (r : Int) = ((r % 256 : Nat) : Int) := by rw [IntKind.wrap_u8']; exact e2
  have hh : r / 256 < 256 := by omega
  have hlo : r % 256 < 256 := by omega
  generalize r / 256 = hi at e1 Hsm hh
  generalize r % 256 = lo at e2 e3 Hsm hlo
  have tok : True := trivial
  have tok2 : True := trivial
  go_wp2_with (first | (clear tok; refine wpList_bs0 rfl 22 5 rfl i0 Try.underlying22 hi0 ?_) | (clear tok2; at_builtin; refine wpList_app _ rfl _ _ 22 rfl 5 i0 (.int .u8 0) 1 1 Try.underlying22 hi0 hz0 hz1 hz2 rfl (by decide) _ _ _ _ rfl (own_empty _ _ _) A p.length c (bytesV p) rfl (Hr.out.alloc _) (bytesV_one p) ?c3 ?c4 ?_))
  case c3 => unfold maxLen; omega
  case c4 => omega
  intro A1 c1 w1 own1 o1 f1
  have ho1 : Only [] w w1 := ((Only.refl _ _).alloc _).trans o1 (fun k hk => by simp [rowFp, Value.ownBlock] at hk; subst hk; exact .inr (Nat.le_refl _))
  have hf1 : Fresh w [] (rowFp (.slice A1 p.length c1)) := fun k hk => by
    rcases f1 k (by simpa using hk) with h | h
    · simp [rowFp, Value.ownBlock] at h; subst h; exact .inr (Nat.le_refl _)
    · exact .inr (by simp at h; omega)
  have own1' : w1.ownsRow 0 5 1 (.slice A1 p.length c1) p.length (bytesV p) := by simpa using own1
  clear own1 o1 f1
  go_wp2_with (at_builtin; refine wpList_app _ rfl _ _ 22 rfl 5 i0 (.int .u8 0) 1 1 Try.underlying22 hi0 hz0 hz1 hz2 rfl (by decide) A1 p.length c1 (bytesV p) rfl (own1'.alloc _) _ 2 2 [.int .u8 (hi : Int), .int .u8 (lo : Int)] rfl (Reads.two _ _ _ _) ?c2 ?c3 ?c4 ?_)
  case c2 => intro u hu; simp at hu; rcases hu with rfl | rfl <;> rfl
  case c3 => unfold maxLen; omega
  case c4 => omega
  intro A' c' w2 own2 o2 f2
  go_wp2_with fail
  go_ret
  refine ⟨A', c', rfl, ?_, ?_, ?_⟩
  · rw [Hsm.out, bytesV_append]
    exact own2
  · exact (ho1.alloc _).trans o2 hf1
  · intro k hk
    rcases f2 k hk with h | h
    · exact hf1 k h
    · have := ho1.size; exact .inr (by simp at h; omega)
end Go.Proofs.Ytmojlfgfaabegaa
