/- Contracts of the buffer's capacity, arrival and cost, in the program and in the reference. -/
import Derived.Test.YtmghfhjiodeaeaaV3
import Derived.ChangeKeysEq
namespace Go.Proofs.Ytmghfhjiodeaeaa
open Go.RowKit

theorem info_bf (s : Sq) : (Try.prog.info? 63).map (·.size) = some (sqA s).size := by rw [sqA_size]; kernel_rfl
theorem built_bf (s : Sq) : Try.prog.built 63 [(0, .agg (sqA s))] = some (sqA s) := by kernel_rfl
section
variable {ops : Array Oper} {rest : List Oper} {o : Oper} {a : Act} {w : World} {Q : Exit → Act → World → Prop} {X Y : Operand} {g : Nat} {s : Sq}
theorem bxB (hgd : o.guard = none) (ho : o.op = .box 63 X) (hv : a.eval X = .agg (sqA s)) (k : ∀ g w', Blk w' g 63 (sqA s) → Only [] w w' → w.heap.size ≤ g → wpList Try.prog ops Q rest (a.put o.dst (.pointer (some ⟨g, 0, none⟩))) w') : wpList Try.prog ops Q (o :: rest) a w :=
  wbx _ _ hgd ho hv rfl k
theorem ldB (h : Blk w g 63 (sqA s)) (hgd : o.guard = none) (ho : o.op = .load 63 X) (hx : a.eval X = .pointer (some ⟨g, 0, none⟩))
    (k : wpList Try.prog ops Q rest (a.put o.dst (.agg (sqA s))) w) : wpList Try.prog ops Q (o :: rest) a w :=
  wpList_load_row hgd 63 X ho g hx 63 _ (0, 0) _ h Try.underlying63 rfl (info_bf _) k
theorem bldB (hgd : o.guard = none) (ho : o.op = .build 63 #[(0, X)]) (hx : a.eval X = .agg (sqA s)) (k : wpList Try.prog ops Q rest (a.put o.dst (.agg (sqA s))) w) : wpList Try.prog ops Q (o :: rest) a w :=
  wpList_build hgd _ #[(0, X)] ho (by simp [hx, built_bf]) (by simpa [hx, built_bf] using k)
end
/-- The parts. -/
def cap (s : Sq) : Int := 2 * s.num * s.bf
def arl (s : Sq) (f : Int) : Int := s.br * s.den * f
def cst (s : Sq) (b : Int) : Int := 2 * s.num * b
/-- What the parts need. -/
structure Ok (s : Sq) : Prop where
  num : 1 ≤ s.num ∧ s.num ≤ 1048576
  den : 1 ≤ s.den ∧ s.den ≤ 65536
  br : 1 ≤ s.br ∧ s.br ≤ 16777216
  bf : 1 ≤ s.bf ∧ s.bf ≤ 8388608
theorem VS.ok {s : Sq} (h : VS s) : Ok s := by
  unfold VS at h
  obtain ⟨_, _, _, _, _, _, _, h8, h9, h10, h11, h12, h13, h14, h15, _⟩ := h
  exact ⟨⟨h9, h10⟩, ⟨h8.1, h11⟩, ⟨h12, h13⟩, ⟨h14, h15⟩⟩
theorem cap_bd {s : Sq} (h : Ok s) : 2 ≤ cap s ∧ cap s ≤ 17592186044416 := by
  have h1 := h.num; have h2 := h.bf
  have := mulp (a := s.num) (b := s.bf) (A := 1048576) (B := 8388608) (by omega) (by omega)
  have e : cap s = 2 * (s.num * s.bf) := Int.mul_assoc _ _ _
  have h3 : 1 * 1 ≤ s.num * s.bf := Int.mul_le_mul h1.1 h2.1 (by omega) (by omega)
  omega
theorem cst_bd {s : Sq} (h : Ok s) {b : Int} (hb : 0 ≤ b ∧ b ≤ 8388608) : 0 ≤ cst s b ∧ cst s b ≤ 17592186044416 := by
  have h1 := h.num
  have := mulp (a := s.num) (b := b) (A := 1048576) (B := 8388608) (by omega) hb
  have e : cst s b = 2 * (s.num * b) := Int.mul_assoc _ _ _
  omega
theorem arl_bd {s : Sq} (h : Ok s) {f : Int} (hf : 0 ≤ f ∧ f ≤ 3) : 0 ≤ arl s f ∧ arl s f ≤ 3298534883328 := by
  have h1 := h.br; have h2 := h.den
  have := mulp (mulp (a := s.br) (b := s.den) (A := 16777216) (B := 65536) (by omega) (by omega)) hf
  unfold arl; omega
theorem bd_bd {s : Sq} (h : Ok s) : 0 ≤ s.br * s.den ∧ s.br * s.den ≤ 1099511627776 := by
  have h1 := h.br; have h2 := h.den
  have := mulp (a := s.br) (b := s.den) (A := 16777216) (B := 65536) (by omega) (by omega)
  omega
theorem bit_any (w : World) (s : Sq) (h : Ok s) : Calls Try.prog 44 #[.agg (sqA s)] w fun e w' => e = .returned (.int .i64 (2 * s.num)) ∧ Only [] w w' := by
  have h1 := h.num
  go_enter Try.func44, Try.ntmps44
  have tok : True := trivial
  go_wp2_with (clear tok; refine bxB (s := s) rfl rfl rfl ?_; rintro g1 w1 b1 o1 l1; obtain ⟨c0, c1, c2, c3, c4, c5, c6⟩ := b1.sq)
  go_ret
  exact ⟨rfl, o1⟩
theorem capacity_any (w : World) (s : Sq) (h : Ok s) : Calls Try.prog 31 #[.agg (sqA s)] w fun e w' => e = .returned (.int .i64 (cap s)) ∧ Only [] w w' := by
  have h1 := h.num
  have h2 := h.bf
  have h3 := cap_bd h
  unfold cap at h3
  go_enter Try.func31, Try.ntmps31
  have tok : True := trivial
  go_wp2_with (clear tok; refine bxB (s := s) rfl rfl rfl ?_; rintro g1 w1 b1 o1 l1; obtain ⟨c0, c1, c2, c3, c4, c5, c6⟩ := b1.sq)
  have f6 : ∀ w', Cls w1 w' → w'.cell? ⟨g1, 6, none⟩ = some (.int .i64 s.bf) := fun w' h => h.cell c6
  refine rgn (Cls w1) (by kernel_rfl) (by kernel_rfl) Cls.refl ?_
  refine qR _ rfl rfl rfl (fun w hC => hC.blk b1) Try.underlying63 rfl (info_bf _) ?_
  simp only [Act.put, List.setIfInBounds_toArray, List.set_cons_zero, List.set_cons_succ]
  refine qC (fun w hC => Calls.cls hC (bit_any w s h)) rfl (fun w => ?_) ?_
  · go_simp; try rfl
  simp only [Act.put, List.setIfInBounds_toArray, List.set_cons_zero, List.set_cons_succ]
  repeat (first | (refine qU rfl ?_; simp only [Act.put, List.setIfInBounds_toArray, List.set_cons_zero, List.set_cons_succ]) | (refine qW ?_ rfl rfl (fun w hC K hK => ?_) ?_; rotate_left; (focus ((go_wp2_with fail) <;> exact hK _ hC)); simp only [Act.put, List.setIfInBounds_toArray, List.set_cons_zero, List.set_cons_succ]))
  refine qN ?_
  intro w' hw'
  go_wp2_with fail
  go_ret
  exact ⟨rfl, o1.then hw'.only⟩
theorem arrival_any (w : World) (s : Sq) (h : Ok s) (f : Int) (hf : 0 ≤ f ∧ f ≤ 3) : Calls Try.prog 33 #[.agg (sqA s), .int .i64 f] w fun e w' => e = .returned (.int .i64 (arl s f)) ∧ Only [] w w' := by
  have h1 := h.br
  have h2 := h.den
  have h3 := arl_bd h hf
  have h4 := bd_bd h
  unfold arl at h3
  go_enter Try.func33, Try.ntmps33
  have tok : True := trivial
  go_wp2_with (clear tok; refine bxB (s := s) rfl rfl rfl ?_; rintro g1 w1 b1 o1 l1; obtain ⟨c0, c1, c2, c3, c4, c5, c6⟩ := b1.sq)
  go_ret
  exact ⟨rfl, o1⟩
theorem cost_any (w : World) (s : Sq) (h : Ok s) (b : Int) (hb : 0 ≤ b ∧ b ≤ 8388608) : Calls Try.prog 34 #[.agg (sqA s), .int .i64 b] w fun e w' => e = .returned (.int .i64 (cst s b)) ∧ Only [] w w' := by
  have h1 := h.num
  have h3 := cst_bd h hb
  unfold cst at h3
  go_enter Try.func34, Try.ntmps34
  have tok : True := trivial
  have tok2 : True := trivial
  go_wp2_with (first | (clear tok; refine bxB (s := s) rfl rfl rfl ?_; rintro g1 w1 b1 o1 l1) | (clear tok2; refine ldB b1 rfl rfl rfl ?_))
  refine (bit_any _ s h).mono ?_
  rintro e w2 ⟨rfl, o2⟩
  go_wp2_with fail
  go_ret
  exact ⟨rfl, o1.then o2⟩
theorem part_any (w : World) (s : Sq) (h : Ok s) : Calls Try.prog 32 #[.agg (sqA s)] w fun e w' => e = .returned (.int .i64 (2 * s.num)) ∧ Only [] w w' := by
  have h1 := h.num
  go_enter Try.func32, Try.ntmps32
  have tok : True := trivial
  go_wp2_with (clear tok; refine bxS (s := s) rfl rfl rfl ?_; rintro g1 w1 b1 o1 l1; obtain ⟨c0, c1, c2, c3, c4, c5, c6⟩ := b1.sq)
  go_ret
  exact ⟨rfl, o1⟩
/-- What the exported functions return. -/
def Cap (s : Sq) : Int := if vs s = true then cap s else 0
def Arl (s : Sq) (f : Int) : Int := if vs s = true ∧ 0 ≤ f ∧ f ≤ 3 then arl s f else 0
def Cst (s : Sq) (b : Int) : Int := if vs s = true ∧ 0 ≤ b ∧ b ≤ 8388608 then cst s b else 0
theorem Capacity_any (w : World) (s : Sq) (hI : SqI s) : Calls Try.prog 12 #[.agg (sqA s)] w fun e w' => e = .returned (.int .i64 (Cap s)) ∧ Only [] w w' := by
  go_enter Try.func12, Try.ntmps12
  have tok : True := trivial
  have tok2 : True := trivial
  go_wp2_with (first | (clear tok; refine bxS (s := s) rfl rfl rfl ?_; rintro g1 w1 b1 o1 l1) | (clear tok2; refine ldS b1 rfl rfl rfl ?_))
  refine (vs_any _ s hI).mono ?_
  rintro e w2 ⟨rfl, o2⟩
  have ho := o1.then o2
  have b2 := b1.only o2 (by simp)
  cases hv : vs s with
  | false =>
    have HE := Lib.hid (show Cap s = 0 from by unfold Cap; simp [hv])
    clear hv
    go_wp2_with fail
    go_ret
    exact ⟨congrArg Ending.returned (congrArg (Value.int IntKind.i64) HE.out.symm), ho⟩
  | true =>
    have hk := (vs_true.1 hv).ok
    have HE := Lib.hid (show Cap s = cap s from by unfold Cap; simp [hv])
    clear hv
    have tok3 : True := trivial
    have tok4 : True := trivial
    go_wp2_with (first | (clear tok3; refine ldS b2 rfl rfl rfl ?_) | (clear tok4; refine bldB (s := s) rfl rfl rfl ?_))
    refine (capacity_any _ s hk).mono ?_
    rintro e w3 ⟨rfl, o3⟩
    go_wp2_with fail
    go_ret
    exact ⟨congrArg Ending.returned (congrArg (Value.int IntKind.i64) HE.out.symm), ho.then o3⟩
theorem refCapacity_any (w : World) (s : Sq) (hI : SqI s) : Calls Try.prog 13 #[.agg (sqA s)] w fun e w' => e = .returned (.int .i64 (Cap s)) ∧ Only [] w w' := by
  go_enter Try.func13, Try.ntmps13
  have tok : True := trivial
  have tok2 : True := trivial
  go_wp2_with (first | (clear tok; refine bxS (s := s) rfl rfl rfl ?_; rintro g1 w1 b1 o1 l1) | (clear tok2; refine ldS b1 rfl rfl rfl ?_))
  refine (refVs_any _ s hI).mono ?_
  rintro e w2 ⟨rfl, o2⟩
  have ho := o1.then o2
  have b2 := b1.only o2 (by simp)
  cases hv : vs s with
  | false =>
    have HE := Lib.hid (show Cap s = 0 from by unfold Cap; simp [hv])
    clear hv
    go_wp2_with fail
    go_ret
    exact ⟨congrArg Ending.returned (congrArg (Value.int IntKind.i64) HE.out.symm), ho⟩
  | true =>
    have hk := (vs_true.1 hv).ok
    have HE := Lib.hid (show Cap s = cap s from by unfold Cap; simp [hv])
    clear hv
    obtain ⟨c0, c1, c2, c3, c4, c5, c6⟩ := b2.sq
    have f6 : ∀ w', Cls w2 w' → w'.cell? ⟨g1, 6, none⟩ = some (.int .i64 s.bf) := fun w' h => h.cell c6
    have h1 := hk.num
    have h2 := hk.bf
    have h3 := cap_bd hk
    unfold cap at h3
    go_wp2_with fail
    refine rgn (Cls w2) (by kernel_rfl) (by kernel_rfl) Cls.refl ?_
    refine qR _ rfl rfl rfl (fun w hC => hC.blk b2) Try.underlying26 rfl (info_sq _) ?_
    simp only [Act.put, List.setIfInBounds_toArray, List.set_cons_zero, List.set_cons_succ]
    refine qC (fun w hC => Calls.cls hC (part_any w s hk)) rfl (fun w => ?_) ?_
    · go_simp; try rfl
    simp only [Act.put, List.setIfInBounds_toArray, List.set_cons_zero, List.set_cons_succ]
    repeat (first | (refine qU rfl ?_; simp only [Act.put, List.setIfInBounds_toArray, List.set_cons_zero, List.set_cons_succ]) | (refine qW ?_ rfl rfl (fun w hC K hK => ?_) ?_; rotate_left; (focus ((go_wp2_with fail) <;> exact hK _ hC)); simp only [Act.put, List.setIfInBounds_toArray, List.set_cons_zero, List.set_cons_succ]))
    refine qN ?_
    intro w' hw'
    go_wp2_with fail
    go_ret
    exact ⟨congrArg Ending.returned (congrArg (Value.int IntKind.i64) HE.out.symm), ho.then hw'.only⟩
theorem Arrival_any (w : World) (s : Sq) (hI : SqI s) (f : Int) : Calls Try.prog 14 #[.agg (sqA s), .int .i64 f] w fun e w' => e = .returned (.int .i64 (Arl s f)) ∧ Only [] w w' := by
  go_enter Try.func14, Try.ntmps14
  have tok : True := trivial
  have tok2 : True := trivial
  go_wp2_with (first | (clear tok; refine bxS (s := s) rfl rfl rfl ?_; rintro g1 w1 b1 o1 l1) | (clear tok2; refine ldS b1 rfl rfl rfl ?_))
  refine (vs_any _ s hI).mono ?_
  rintro e w2 ⟨rfl, o2⟩
  have ho := o1.then o2
  have b2 := b1.only o2 (by simp)
  cases hv : vs s with
  | false =>
    have HE := Lib.hid (show Arl s f = 0 from by unfold Arl; simp [hv])
    clear hv
    go_wp2_with fail
    go_ret
    exact ⟨congrArg Ending.returned (congrArg (Value.int IntKind.i64) HE.out.symm), ho⟩
  | true =>
    have hk := (vs_true.1 hv).ok
    by_cases k1 : f < 0
    · have d1 : decide (f < 0) = true := by simpa using k1
      have HE := Lib.hid (show Arl s f = 0 from by unfold Arl; rw [if_neg (by omega)])
      clear hv
      go_wp2_with fail
      go_ret
      exact ⟨congrArg Ending.returned (congrArg (Value.int IntKind.i64) HE.out.symm), ho⟩
    · have d1 : decide (f < 0) = false := by simpa using k1
      have g1' : 0 ≤ f := by omega
      clear k1
      by_cases k2 : 3 < f
      · have d2 : decide (3 < f) = true := by simpa using k2
        have HE := Lib.hid (show Arl s f = 0 from by unfold Arl; rw [if_neg (by omega)])
        clear hv
        go_wp2_with fail
        go_ret
        exact ⟨congrArg Ending.returned (congrArg (Value.int IntKind.i64) HE.out.symm), ho⟩
      · have d2 : decide (3 < f) = false := by simpa using k2
        have g2' : f ≤ 3 := by omega
        clear k2
        have HE := Lib.hid (show Arl s f = arl s f from by unfold Arl; rw [if_pos ⟨hv, g1', g2'⟩])
        clear hv
        have tok3 : True := trivial
        have tok4 : True := trivial
        go_wp2_with (first | (clear tok3; refine ldS b2 rfl rfl rfl ?_) | (clear tok4; refine bldB (s := s) rfl rfl rfl ?_))
        refine (arrival_any _ s hk f ⟨g1', g2'⟩).mono ?_
        rintro e w3 ⟨rfl, o3⟩
        go_wp2_with fail
        go_ret
        exact ⟨congrArg Ending.returned (congrArg (Value.int IntKind.i64) HE.out.symm), ho.then o3⟩
theorem refArrival_any (w : World) (s : Sq) (hI : SqI s) (f : Int) : Calls Try.prog 15 #[.agg (sqA s), .int .i64 f] w fun e w' => e = .returned (.int .i64 (Arl s f)) ∧ Only [] w w' := by
  go_enter Try.func15, Try.ntmps15
  have tok : True := trivial
  have tok2 : True := trivial
  go_wp2_with (first | (clear tok; refine bxS (s := s) rfl rfl rfl ?_; rintro g1 w1 b1 o1 l1) | (clear tok2; refine ldS b1 rfl rfl rfl ?_))
  refine (refVs_any _ s hI).mono ?_
  rintro e w2 ⟨rfl, o2⟩
  have ho := o1.then o2
  have b2 := b1.only o2 (by simp)
  cases hv : vs s with
  | false =>
    have HE := Lib.hid (show Arl s f = 0 from by unfold Arl; simp [hv])
    clear hv
    go_wp2_with fail
    go_ret
    exact ⟨congrArg Ending.returned (congrArg (Value.int IntKind.i64) HE.out.symm), ho⟩
  | true =>
    have hk := (vs_true.1 hv).ok
    by_cases k1 : f < 0
    · have d1 : decide (f < 0) = true := by simpa using k1
      have HE := Lib.hid (show Arl s f = 0 from by unfold Arl; rw [if_neg (by omega)])
      clear hv
      go_wp2_with fail
      go_ret
      exact ⟨congrArg Ending.returned (congrArg (Value.int IntKind.i64) HE.out.symm), ho⟩
    · have d1 : decide (f < 0) = false := by simpa using k1
      have g1' : 0 ≤ f := by omega
      clear k1
      by_cases k2 : 3 < f
      · have d2 : decide (3 < f) = true := by simpa using k2
        have HE := Lib.hid (show Arl s f = 0 from by unfold Arl; rw [if_neg (by omega)])
        clear hv
        go_wp2_with fail
        go_ret
        exact ⟨congrArg Ending.returned (congrArg (Value.int IntKind.i64) HE.out.symm), ho⟩
      · have d2 : decide (3 < f) = false := by simpa using k2
        have g2' : f ≤ 3 := by omega
        clear k2
        have HE := Lib.hid (show Arl s f = arl s f from by unfold Arl; rw [if_pos ⟨hv, g1', g2'⟩])
        clear hv
        obtain ⟨c0, c1, c2, c3, c4, c5, c6⟩ := b2.sq
        have h1 := hk.br
        have h2 := hk.den
        have h3 := arl_bd hk ⟨g1', g2'⟩
        have h4 := bd_bd hk
        unfold arl at h3
        go_wp2_with fail
        go_ret
        exact ⟨congrArg Ending.returned (congrArg (Value.int IntKind.i64) HE.out.symm), ho⟩
theorem Cost_any (w : World) (s : Sq) (hI : SqI s) (b : Int) : Calls Try.prog 16 #[.agg (sqA s), .int .i64 b] w fun e w' => e = .returned (.int .i64 (Cst s b)) ∧ Only [] w w' := by
  go_enter Try.func16, Try.ntmps16
  have tok : True := trivial
  have tok2 : True := trivial
  go_wp2_with (first | (clear tok; refine bxS (s := s) rfl rfl rfl ?_; rintro g1 w1 b1 o1 l1) | (clear tok2; refine ldS b1 rfl rfl rfl ?_))
  refine (vs_any _ s hI).mono ?_
  rintro e w2 ⟨rfl, o2⟩
  have ho := o1.then o2
  have b2 := b1.only o2 (by simp)
  cases hv : vs s with
  | false =>
    have HE := Lib.hid (show Cst s b = 0 from by unfold Cst; simp [hv])
    clear hv
    go_wp2_with fail
    go_ret
    exact ⟨congrArg Ending.returned (congrArg (Value.int IntKind.i64) HE.out.symm), ho⟩
  | true =>
    have hk := (vs_true.1 hv).ok
    by_cases k1 : b < 0
    · have d1 : decide (b < 0) = true := by simpa using k1
      have HE := Lib.hid (show Cst s b = 0 from by unfold Cst; rw [if_neg (by omega)])
      clear hv
      go_wp2_with fail
      go_ret
      exact ⟨congrArg Ending.returned (congrArg (Value.int IntKind.i64) HE.out.symm), ho⟩
    · have d1 : decide (b < 0) = false := by simpa using k1
      have g1' : 0 ≤ b := by omega
      clear k1
      by_cases k2 : 8388608 < b
      · have d2 : decide (8388608 < b) = true := by simpa using k2
        have HE := Lib.hid (show Cst s b = 0 from by unfold Cst; rw [if_neg (by omega)])
        clear hv
        go_wp2_with fail
        go_ret
        exact ⟨congrArg Ending.returned (congrArg (Value.int IntKind.i64) HE.out.symm), ho⟩
      · have d2 : decide (8388608 < b) = false := by simpa using k2
        have g2' : b ≤ 8388608 := by omega
        clear k2
        have HE := Lib.hid (show Cst s b = cst s b from by unfold Cst; rw [if_pos ⟨hv, g1', g2'⟩])
        clear hv
        have tok3 : True := trivial
        have tok4 : True := trivial
        go_wp2_with (first | (clear tok3; refine ldS b2 rfl rfl rfl ?_) | (clear tok4; refine bldB (s := s) rfl rfl rfl ?_))
        refine (cost_any _ s hk b ⟨g1', g2'⟩).mono ?_
        rintro e w3 ⟨rfl, o3⟩
        go_wp2_with fail
        go_ret
        exact ⟨congrArg Ending.returned (congrArg (Value.int IntKind.i64) HE.out.symm), ho.then o3⟩
theorem refCost_any (w : World) (s : Sq) (hI : SqI s) (b : Int) : Calls Try.prog 17 #[.agg (sqA s), .int .i64 b] w fun e w' => e = .returned (.int .i64 (Cst s b)) ∧ Only [] w w' := by
  go_enter Try.func17, Try.ntmps17
  have tok : True := trivial
  have tok2 : True := trivial
  go_wp2_with (first | (clear tok; refine bxS (s := s) rfl rfl rfl ?_; rintro g1 w1 b1 o1 l1) | (clear tok2; refine ldS b1 rfl rfl rfl ?_))
  refine (refVs_any _ s hI).mono ?_
  rintro e w2 ⟨rfl, o2⟩
  have ho := o1.then o2
  have b2 := b1.only o2 (by simp)
  cases hv : vs s with
  | false =>
    have HE := Lib.hid (show Cst s b = 0 from by unfold Cst; simp [hv])
    clear hv
    go_wp2_with fail
    go_ret
    exact ⟨congrArg Ending.returned (congrArg (Value.int IntKind.i64) HE.out.symm), ho⟩
  | true =>
    have hk := (vs_true.1 hv).ok
    by_cases k1 : b < 0
    · have d1 : decide (b < 0) = true := by simpa using k1
      have HE := Lib.hid (show Cst s b = 0 from by unfold Cst; rw [if_neg (by omega)])
      clear hv
      go_wp2_with fail
      go_ret
      exact ⟨congrArg Ending.returned (congrArg (Value.int IntKind.i64) HE.out.symm), ho⟩
    · have d1 : decide (b < 0) = false := by simpa using k1
      have g1' : 0 ≤ b := by omega
      clear k1
      by_cases k2 : 8388608 < b
      · have d2 : decide (8388608 < b) = true := by simpa using k2
        have HE := Lib.hid (show Cst s b = 0 from by unfold Cst; rw [if_neg (by omega)])
        clear hv
        go_wp2_with fail
        go_ret
        exact ⟨congrArg Ending.returned (congrArg (Value.int IntKind.i64) HE.out.symm), ho⟩
      · have d2 : decide (8388608 < b) = false := by simpa using k2
        have g2' : b ≤ 8388608 := by omega
        clear k2
        have HE := Lib.hid (show Cst s b = cst s b from by unfold Cst; rw [if_pos ⟨hv, g1', g2'⟩])
        clear hv
        have h1 := hk.num
        have h3 := cst_bd hk ⟨g1', g2'⟩
        unfold cst at h3
        have tok3 : True := trivial
        go_wp2_with (clear tok3; refine ldS b2 rfl rfl rfl ?_)
        refine (part_any _ s hk).mono ?_
        rintro e w3 ⟨rfl, o3⟩
        go_wp2_with fail
        go_ret
        exact ⟨congrArg Ending.returned (congrArg (Value.int IntKind.i64) HE.out.symm), ho.then o3⟩
end Go.Proofs.Ytmghfhjiodeaeaa
