/- Contract of Need. -/
import Derived.Test.YtmghfhjiodeaeaaU5
namespace Go.Proofs.Ytmghfhjiodeaeaa
open Go.RowKit

theorem zeroB : (Try.prog.info? 63).map (·.zero) = some (some (.agg (sqA ⟨0, 0, 0, 0, false, 0, 0, fun _ => 0, fun _ => 0⟩))) := by kernel_rfl
section
variable {ops : Array Oper} {rest : List Oper} {o : Oper} {a : Act} {w : World} {Q : Exit → Act → World → Prop} {X Y : Operand} {g : Nat} {s : Sq}
theorem alBf (hgd : o.guard = none) (ho : o.op = .alloc 63) (k : ∀ g w', Blk w' g 63 (sqA ⟨0, 0, 0, 0, false, 0, 0, fun _ => 0, fun _ => 0⟩) → Only [] w w' → w.heap.size ≤ g → wpList Try.prog ops Q rest (a.put o.dst (.pointer (some ⟨g, 0, none⟩))) w') : wpList Try.prog ops Q (o :: rest) a w :=
  wal _ _ hgd ho zeroB rfl k
theorem srB {s' : Sq} (h : Blk w g 63 (sqA s)) (hgd : o.guard = none) (ho : o.op = .store 63 X Y) (hx : a.eval X = .pointer (some ⟨g, 0, none⟩)) (hy : a.eval Y = .agg (sqA s'))
    (k : ∀ w', Blk w' g 63 (sqA s') → Only [g] w w' → w'.heap.size = w.heap.size → wpList Try.prog ops Q rest (a.put o.dst undef) w') : wpList Try.prog ops Q (o :: rest) a w :=
  wsr _ h hgd ho hx hy (info_bf _) (by rw [sqA_size, sqA_size]) (sqA_one _) k
end
theorem qMax {P : Program} {ops : Array Oper} {C : World → Prop} {Q : Act → Prop} {rest : List Oper} {o : Oper} {a : Act} {ts : Array TypeId} (x y : Int) (X Y : Operand) (hw : Region.wanted o (yielded ops a.tmps) = true) (ho : o.op = .call { callee := .builtin .max, args := #[X, Y], argTypes := ts })
    (hx : a.eval X = .int .i64 x) (hy : a.eval Y = .int .i64 y) (h : wpK P ops C Q rest (a.put o.dst (.int .i64 (max x y)))) : wpK P ops C Q (o :: rest) a := by
  refine ⟨_, .inl ⟨hw, fun w hC => ?_⟩, h⟩
  unfold execOp
  simp only [ho, resolve, invoke, builtin, Sem.run_bind, Sem.run_pure, Result.andThen_ok, List.map_toArray, List.map_cons, List.map_nil, hx, hy, run_max_int2]
  refine ⟨.inr ?_, hC⟩
  congr 1
  split <;> omega
/-- What Need comes to. -/
def stp (s : Sq) (x : Un) (n : Int) : Int := cst s x.c + max 0 (n - arl s x.d)
def most (s : Sq) : Int := cap s - cst s 8
def nd (s : Sq) : List Un → Int → Option Int
  | [], n => if n ≤ most s then some n else none
  | x :: l, n => (nd s l n).bind fun m => if stp s x m ≤ most s then some (stp s x m) else none
def ned (s : Sq) (us : List Un) (wt : Int) : Int × Int :=
  if prp s us 0 = true ∧ 0 ≤ wt then (match nd s us wt with | some m => (m, 0) | none => (0, 9)) else (0, 1)
theorem prp_true {s : Sq} {us : List Un} {st : Int} (h : prp s us st = true) : vs s = true ∧ 0 ≤ st ∧ st ≤ cap s ∧ us.length ≤ 256 ∧ ∀ x ∈ us, uok x = true := by
  simpa [prp, List.all_eq_true] using h
theorem nd_bd {s : Sq} (h : Ok s) : ∀ (us : List Un) (wt m : Int), (∀ x ∈ us, uok x = true) → 0 ≤ wt → nd s us wt = some m → 0 ≤ m ∧ m ≤ most s
  | [], wt, m, _, h0, hm => by
    simp only [nd] at hm
    split at hm
    · simp at hm; omega
    · cases hm
  | x :: l, wt, m, hu, h0, hm => by
    simp only [nd] at hm
    cases hl : nd s l wt with
    | none => rw [hl] at hm; cases hm
    | some m1 =>
      rw [hl] at hm
      simp only [Option.bind_some] at hm
      split at hm
      · have := uok_true (hu x (by simp))
        have h2 := cst_bd h (b := x.c) (by omega)
        simp at hm
        unfold stp at hm
        unfold stp at *
        omega
      · cases hm
theorem nd_drop {s : Sq} {us : List Un} {j : Nat} {x : Un} (h : us[j]? = some x) (wt : Int) : nd s (us.drop j) wt = (nd s (us.drop (j + 1)) wt).bind fun m => if stp s x m ≤ most s then some (stp s x m) else none := by
  have hlt : j < us.length := (List.getElem?_eq_some_iff.1 h).1
  rw [List.drop_eq_getElem_cons hlt]
  have : us[j] = x := by rw [List.getElem?_eq_getElem hlt] at h; simpa using h
  rw [this]; rfl
theorem nd_none : ∀ {s : Sq} (j : Nat) {us : List Un} {wt : Int}, j ≤ us.length → nd s (us.drop j) wt = none → nd s us wt = none
  | s, 0, us, wt, _, h => by simpa using h
  | s, j + 1, us, wt, hj, h => by
    refine nd_none j (by omega) ?_
    rw [nd_drop (List.getElem?_eq_getElem (by omega)) wt, h]; rfl
theorem most_bd {s : Sq} (h : Ok s) : -17592186044416 ≤ most s ∧ most s ≤ 17592186044416 := by
  have h1 := cap_bd h
  have h2 := cst_bd h (b := 8) (by omega)
  unfold most; omega
set_option maxHeartbeats 1000000 in
set_option maxRecDepth 100000 in
theorem Need_any (w : World) (s : Sq) (hI : SqI s) (A : Option Addr) (c : Nat) (us : List Un) (wt : Int) (hr : Reads w A 4 us.length (uV us)) :
    Calls Try.prog 18 #[.agg (sqA s), .slice A us.length c, .int .i64 wt] w fun e w' => e = .returned (.tuple #[.int .i64 (ned s us wt).1, .int .i64 (ned s us wt).2]) ∧ Only [] w w' := by
  have Hr := Lib.hid hr
  clear hr
  go_enter Try.func18, Try.ntmps18
  have tok : True := trivial
  have tok2 : True := trivial
  have tok3 : True := trivial
  have tok4 : True := trivial
  have tok5 : True := trivial
  have tok6 : True := trivial
  go_wp2_with (first | (clear tok; refine bxS (s := s) rfl rfl rfl ?_; rintro g1 w1 b1 o1 l1) | (clear tok2; refine ldS b1 rfl rfl rfl ?_) | (clear tok3; refine bldB (s := s) rfl rfl rfl ?_) | (clear tok4; refine alBf rfl rfl ?_; rintro g2 w2 b2 o2 l2) | (clear tok5; refine srB (s' := s) b2 rfl rfl rfl rfl ?_; rintro w3 b3 o3 l3) | (clear tok6; refine ldB b3 rfl rfl rfl ?_))
  have ho3 : Only [] w w3 := o1.then (Only.own o2 o3 l2)
  refine (proper_any _ s hI _ c us 0 (Hr.out.then ho3)).mono ?_
  rintro e w4 ⟨rfl, o4⟩
  have ho := ho3.then o4
  have b4 := b3.only o4 (by simp)
  clear o1 o2 o3 o4 b1 b2 b3 ho3
  cases hp : prp s us 0 with
  | false =>
    have HE := Lib.hid (show ned s us wt = (0, 1) by unfold ned; rw [if_neg (by simp [hp])])
    clear hp
    go_wp2_with fail
    go_ret2
    exact ⟨by rw [HE.out]; rfl, ho⟩
  | true =>
    obtain ⟨hv, _, _, hlen, hall⟩ := prp_true hp
    have hk := (vs_true.1 hv).ok
    have Hp := Lib.hid hp
    have Hall := Lib.hid hall
    clear hp hv hall
    by_cases h0 : wt < 0
    · have HE := Lib.hid (show ned s us wt = (0, 1) by unfold ned; rw [if_neg (by omega)])
      go_wp2_with fail
      go_ret2
      exact ⟨by rw [HE.out]; rfl, ho⟩
    · have h0' : 0 ≤ wt := by omega
      have hd0 : decide (wt < 0) = false := decide_eq_false h0
      have HE := Lib.hid (show ned s us wt = (match nd s us wt with | some m => (m, 0) | none => (0, 9)) by unfold ned; rw [if_pos ⟨Hp.out, h0'⟩])
      clear h0
      go_wp2_with fail
      clear hd0
      have hcap := cap_bd hk
      have hc8 := cst_bd hk (b := 8) (by omega)
      have hmo := most_bd hk
      refine rgn (Cls w4) (by kernel_rfl) (by kernel_rfl) Cls.refl ?_
      refine qR _ rfl rfl rfl (fun w hC => hC.blk b4) Try.underlying63 rfl (info_bf _) ?_
      simp only [Act.put, List.setIfInBounds_toArray, List.set_cons_zero, List.set_cons_succ]
      refine qC (fun w hC => Calls.cls hC (capacity_any w s hk)) rfl (fun w => ?_) ?_
      · go_simp; try rfl
      simp only [Act.put, List.setIfInBounds_toArray, List.set_cons_zero, List.set_cons_succ]
      refine qR _ rfl rfl rfl (fun w hC => hC.blk b4) Try.underlying63 rfl (info_bf _) ?_
      simp only [Act.put, List.setIfInBounds_toArray, List.set_cons_zero, List.set_cons_succ]
      refine qC (fun w hC => Calls.cls hC (cost_any w s hk 8 (by omega))) rfl (fun w => ?_) ?_
      · go_simp; try rfl
      simp only [Act.put, List.setIfInBounds_toArray, List.set_cons_zero, List.set_cons_succ]
      repeat (first | (refine qU rfl ?_; simp only [Act.put, List.setIfInBounds_toArray, List.set_cons_zero, List.set_cons_succ]) | (refine qW ?_ rfl rfl (fun w hC K hK => ?_) ?_; rotate_left; (focus ((go_wp2_with fail) <;> exact hK _ hC)); simp only [Act.put, List.setIfInBounds_toArray, List.set_cons_zero, List.set_cons_succ]))
      refine qN ?_
      intro w' hw'
      have hw5 : Only [] w4 w' := hw'
      revert hw5
      clear hw'
      generalize w' = w5
      intro hw'
      have hw' : Cls w4 w5 := hw'
      rw [show cap s - cst s 8 = most s from rfl]
      have ho5 := ho.then hw'.only
      have b5 := b4.only hw'.only (by simp)
      clear hw' b4 ho hcap hc8
      by_cases hm : most s < wt
      · have HN := Lib.hid (nd_none (s := s) (wt := wt) us.length (Nat.le_refl _) (by rw [List.drop_length]; unfold nd; rw [if_neg (by omega)]))
        go_wp2_with fail
        go_ret2
        exact ⟨by rw [HE.out, HN.out]; rfl, ho5⟩
      · have hm' : wt ≤ most s := by omega
        have hdm : decide (most s < wt) = false := decide_eq_false hm
        have HN := Lib.hid (show nd s (us.drop us.length) wt = some wt by rw [List.drop_length]; unfold nd; rw [if_pos hm'])
        clear hm
        go_wp2_with fail
        clear hdm
        go_loopw [10, 11] (fun n i wr => ∃ j : Nat, j ≤ us.length ∧ i = .int .i64 ((j : Int) - 1) ∧ ∃ m : Int, n = .int .i64 m ∧ Hid (nd s (us.drop j) wt = some m) ∧ 0 ≤ m ∧ m ≤ most s ∧ Only [] w5 wr) (fun _ i _ => (intOf i + 1).toNat)
        case atStart => exact ⟨us.length, Nat.le_refl _, by go_num, wt, rfl, HN, h0', hm', Only.refl _ _⟩
        case round =>
          obtain ⟨j, hj, rfl, m, rfl, Hm, hm0, hm1, ho6⟩ := hrel
          have b6 := b5.only ho6 (by simp)
          rcases Nat.eq_zero_or_pos j with hj0 | hj0
          · subst hj0
            have HF := Lib.hid (show nd s us wt = some m by have := Hm.out; rwa [List.drop_zero] at this)
            go_wp2_with fail
            go_ret2
            exact ⟨by rw [HE.out, HF.out]; rfl, ho5.then ho6⟩
          · obtain ⟨k, rfl⟩ : ∃ k, j = k + 1 := ⟨j - 1, by omega⟩
            obtain ⟨x, hx⟩ : ∃ x, us[k]? = some x := ⟨_, List.getElem?_eq_getElem (by omega)⟩
            obtain ⟨b, off, rfl, _, _, c2, c3⟩ := (Hr.out.then (ho5.then ho6)).un rfl hx
            have hu := uok_true (Hall.out x (List.mem_of_getElem? hx))
            have hcb := cst_bd hk (b := x.c) (by omega)
            have hab := arl_bd hk (f := x.d) (by omega)
            have HD := Lib.hid (nd_drop (s := s) hx wt)
            have hki : ((k + 1 : Nat) : Int) - 1 = (k : Int) := by omega
            rw [hki]
            have hkl : (k : Int) < (us.length : Int) := by omega
            have f2 : ∀ w', Cls wr w' → w'.cell? ⟨b, off + k * 4 + 2, none⟩ = some (.int .i64 x.c) := fun w' h => h.cell c2
            have f3 : ∀ w', Cls wr w' → w'.cell? ⟨b, off + k * 4 + 3, none⟩ = some (.int .i64 x.d) := fun w' h => h.cell c3
            clear c2 c3 hx hki
            go_wp2_with fail
            refine rgn (Cls wr) (by kernel_rfl) (by kernel_rfl) Cls.refl ?_
            refine qR _ rfl rfl rfl (fun w hC => hC.blk b6) Try.underlying63 rfl (info_bf _) ?_
            simp only [Act.put, List.setIfInBounds_toArray, List.set_cons_zero, List.set_cons_succ]
            iterate 5 (first | (refine qU rfl ?_; simp only [Act.put, List.setIfInBounds_toArray, List.set_cons_zero, List.set_cons_succ]) | (refine qW ?_ rfl rfl (fun w hC K hK => ?_) ?_; rotate_left; (focus ((go_wp2_with fail) <;> exact hK _ hC)); simp only [Act.put, List.setIfInBounds_toArray, List.set_cons_zero, List.set_cons_succ]))
            refine qC (fun w hC => Calls.cls hC (cost_any w s hk x.c ⟨hu.1, hu.2.1⟩)) rfl (fun w => ?_) ?_
            · go_simp; try rfl
            simp only [Act.put, List.setIfInBounds_toArray, List.set_cons_zero, List.set_cons_succ]
            iterate 1 (first | (refine qU rfl ?_; simp only [Act.put, List.setIfInBounds_toArray, List.set_cons_zero, List.set_cons_succ]) | (refine qW ?_ rfl rfl (fun w hC K hK => ?_) ?_; rotate_left; (focus ((go_wp2_with fail) <;> exact hK _ hC)); simp only [Act.put, List.setIfInBounds_toArray, List.set_cons_zero, List.set_cons_succ]))
            refine qR _ rfl rfl rfl (fun w hC => hC.blk b6) Try.underlying63 rfl (info_bf _) ?_
            simp only [Act.put, List.setIfInBounds_toArray, List.set_cons_zero, List.set_cons_succ]
            iterate 5 (first | (refine qU rfl ?_; simp only [Act.put, List.setIfInBounds_toArray, List.set_cons_zero, List.set_cons_succ]) | (refine qW ?_ rfl rfl (fun w hC K hK => ?_) ?_; rotate_left; (focus ((go_wp2_with fail) <;> exact hK _ hC)); simp only [Act.put, List.setIfInBounds_toArray, List.set_cons_zero, List.set_cons_succ]))
            refine qC (fun w hC => Calls.cls hC (arrival_any w s hk x.d (by omega))) rfl (fun w => ?_) ?_
            · go_simp; try rfl
            simp only [Act.put, List.setIfInBounds_toArray, List.set_cons_zero, List.set_cons_succ]
            iterate 1 (first | (refine qU rfl ?_; simp only [Act.put, List.setIfInBounds_toArray, List.set_cons_zero, List.set_cons_succ]) | (refine qW ?_ rfl rfl (fun w hC K hK => ?_) ?_; rotate_left; (focus ((go_wp2_with fail) <;> exact hK _ hC)); simp only [Act.put, List.setIfInBounds_toArray, List.set_cons_zero, List.set_cons_succ]))
            refine qMax 0 (m - arl s x.d) _ _ rfl rfl rfl rfl ?_
            simp only [Act.put, List.setIfInBounds_toArray, List.set_cons_zero, List.set_cons_succ]
            have hmx : 0 ≤ max 0 (m - arl s x.d) ∧ max 0 (m - arl s x.d) ≤ 17592186044416 := by omega
            generalize hMX : max 0 (m - arl s x.d) = MX at hmx ⊢
            have HMX := Lib.hid hMX
            clear hMX
            repeat (first | (refine qU rfl ?_; simp only [Act.put, List.setIfInBounds_toArray, List.set_cons_zero, List.set_cons_succ]) | (refine qW ?_ rfl rfl (fun w hC K hK => ?_) ?_; rotate_left; (focus ((go_wp2_with fail) <;> exact hK _ hC)); simp only [Act.put, List.setIfInBounds_toArray, List.set_cons_zero, List.set_cons_succ]))
            refine qN ?_
            intro w' hw'
            have hs : cst s x.c + MX = stp s x m := by unfold stp; rw [HMX.out]
            have hsb : 0 ≤ stp s x m ∧ stp s x m ≤ 35184372088832 := by rw [← hs]; omega
            rw [hs]
            have ho7 := ho6.then hw'.only
            clear hs f2 f3 hcb hab hmx
            by_cases hgt : most s < stp s x m
            · have HF := Lib.hid (nd_none (s := s) (us := us) (wt := wt) k (by omega) (by rw [HD.out, Hm.out]; simp only [Option.bind_some]; rw [if_neg (by omega)]))
              go_wp2_with fail
              go_ret2
              exact ⟨by rw [HE.out, HF.out]; rfl, ho5.then ho7⟩
            · have hle : stp s x m ≤ most s := by omega
              have hdg : decide (most s < stp s x m) = false := decide_eq_false hgt
              have HF := Lib.hid (show nd s (us.drop k) wt = some (stp s x m) by rw [HD.out, Hm.out]; simp only [Option.bind_some]; rw [if_pos hle])
              clear hgt
              go_wp2_with fail
              go_roundw
              case rel => exact ⟨k, by omega, by go_num, _, rfl, HF, hsb.1, hle, ho7⟩
              case measure => simp [intOf]
end Go.Proofs.Ytmghfhjiodeaeaa
