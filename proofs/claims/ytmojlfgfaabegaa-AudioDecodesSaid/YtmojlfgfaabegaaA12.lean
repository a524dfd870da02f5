/- Arms for slice expressions and 'min'; TakeBlock. -/
import Derived.Test.YtmojlfgfaabegaaA9
import Derived.Test.YtmojlfgfaabegaaA10
import Derived.Test.YtmojlfgfaabegaaRn
namespace Go.Proofs.Ytmojlfgfaabegaa
open Go.RowKit bt

section
variable {ops : Array Oper} {rest : List Oper} {o : Oper} {a : Act} {w : World} {Q : Exit → Act → World → Prop} {X Y Z : Operand}
theorem arm_min {ts : Array TypeId} (x y m : Int) (hm : (if y < x then y else x) = m) (hgd : o.guard = none) (ho : o.op = .call { callee := .builtin .min, args := #[X, Y], argTypes := ts }) (hx : a.eval X = .int .i64 x) (hy : a.eval Y = .int .i64 y)
    (k : wpList Try.prog ops Q rest (a.put o.dst (.int .i64 m)) w) : wpList Try.prog ops Q (o :: rest) a w := by
  refine wpList_plain hgd fun K hK => ?_
  unfold Oper.wp execOp
  simp only [ho, resolve, invoke, builtin, Sem.run_bind, Sem.run_pure, Result.andThen_ok, List.map_toArray, List.map_cons, List.map_nil, hx, hy, run_min_int2, hm]
  exact hK _ _ k
theorem info_one {e : TypeId} (h : (Try.prog.info? e).map (·.size) = some 1) : ∃ i, Try.prog.info? e = some i ∧ i.size = 1 := by
  cases hi : Try.prog.info? e with
  | none => rw [hi] at h; cases h
  | some i => rw [hi] at h; simp at h; exact ⟨i, rfl, h⟩
theorem run_cut {t e : TypeId} (ht : Try.prog.underlying t = some (.slice e)) (hs : (Try.prog.info? e).map (·.size) = some 1) (w : World) (A : Option Addr) (n c j m : Nat) (h1 : j ≤ m) (h2 : m ≤ c) :
    (Instr.sliceAt t (.slice A n c) (some (.int .i64 (j : Int))) (some (.int .i64 (m : Int))) none).run Try.prog w = .ok (.slice (if c = j then A else A.map (·.add (j * 1))) (m - j) (c - j)) w := by
  have hb := run_sliceBound (P := Try.prog) (w := w) .i64 (j : Int) m .sliceB (by omega) (by omega)
  have hb2 := run_sliceBound (P := Try.prog) (w := w) .i64 (m : Int) c .sliceAcap (by omega) (by omega)
  obtain ⟨i, hi, hz⟩ := info_one hs
  simp [Instr.sliceAt, Instr.slice, run_underlying ht, Instr.sliceBounds, sizeOf, typeInfo, hi, hz, hb, hb2]
theorem run_rest {t e : TypeId} (ht : Try.prog.underlying t = some (.slice e)) (hs : (Try.prog.info? e).map (·.size) = some 1) (w : World) (A : Option Addr) (n c j : Nat) (h1 : j ≤ n) :
    (Instr.sliceAt t (.slice A n c) (some (.int .i64 (j : Int))) none none).run Try.prog w = .ok (.slice (if c = j then A else A.map (·.add (j * 1))) (n - j) (c - j)) w := by
  have hb := run_sliceBound (P := Try.prog) (w := w) .i64 (j : Int) n .sliceB (by omega) (by omega)
  obtain ⟨i, hi, hz⟩ := info_one hs
  simp [Instr.sliceAt, Instr.slice, run_underlying ht, Instr.sliceBounds, sizeOf, typeInfo, hi, hz, hb]
theorem arm_cut {t e : TypeId} (ht : Try.prog.underlying t = some (.slice e)) (hs : (Try.prog.info? e).map (·.size) = some 1) {A : Option Addr} {n c : Nat} (j m : Nat) (h1 : j ≤ m) (h2 : m ≤ c) (hgd : o.guard = none) (ho : o.op = .slice t X (some Y) (some Z) none) (hx : a.eval X = .slice A n c)
    (hy : a.eval Y = .int .i64 (j : Int)) (hz : a.eval Z = .int .i64 (m : Int))
    (k : wpList Try.prog ops Q rest (a.put o.dst (.slice (if c = j then A else A.map (·.add (j * 1))) (m - j) (c - j))) w) : wpList Try.prog ops Q (o :: rest) a w := by
  refine wpList_plain hgd fun K hK => ?_
  unfold Oper.wp execOp
  simp only [ho, Option.map_some, Option.map_none, hx, hy, hz, Sem.run_bind, run_cut ht hs w A n c j m h1 h2, Result.andThen_ok]
  exact hK _ _ k
theorem arm_rest {t e : TypeId} (ht : Try.prog.underlying t = some (.slice e)) (hs : (Try.prog.info? e).map (·.size) = some 1) {A : Option Addr} {n c : Nat} (j : Nat) (h1 : j ≤ n) (hgd : o.guard = none) (ho : o.op = .slice t X (some Y) none none) (hx : a.eval X = .slice A n c)
    (hy : a.eval Y = .int .i64 (j : Int))
    (k : wpList Try.prog ops Q rest (a.put o.dst (.slice (if c = j then A else A.map (·.add (j * 1))) (n - j) (c - j))) w) : wpList Try.prog ops Q (o :: rest) a w := by
  refine wpList_plain hgd fun K hK => ?_
  unfold Oper.wp execOp
  simp only [ho, Option.map_some, Option.map_none, hx, hy, Sem.run_bind, run_rest ht hs w A n c j h1, Result.andThen_ok]
  exact hK _ _ k
end
theorem sz_u8 : (Try.prog.info? 5).map (·.size) = some 1 := by kernel_rfl
theorem sz_i16 : (Try.prog.info? 45).map (·.size) = some 1 := by kernel_rfl
theorem Reads.sub {w : World} {A : Option Addr} {n c j m : Nat} {xs : List Value} (h : Reads w A 1 n xs) (h1 : j ≤ m) (h2 : m ≤ n) (hc : n ≤ c) :
    Reads w (if c = j then A else A.map (·.add (j * 1))) 1 (m - j) ((xs.take m).drop j) := by
  have := (h.front h2).cut (k := j) (cap := c) h1 (by omega)
  simpa using this
theorem bytesV_sub (p : List Nat) (j m : Nat) : ((bytesV p).take m).drop j = bytesV ((p.take m).drop j) := by simp [bytesV]
theorem sub_block {A : Option Addr} {c j : Nat} {ad : Addr} (h : (if c = j then A else A.map (·.add (j * 1))) = some ad) : ∃ ad', A = some ad' ∧ ad.block = ad'.block := by
  split at h
  · exact ⟨ad, h, rfl⟩
  · cases A with
    | none => simp at h
    | some x => simp at h; subst h; exact ⟨x, rfl, block_of_add _ _⟩
/-- The payload of a block. -/
def mid (p : List Nat) : List Nat := (p.take (p.length - 2)).drop 2
def tbits (p : List Nat) : List Bool := bitsIn (mid p) (nBits (mid p))
/-- What TakeBlock comes to. -/
def TB (p : List Nat) : List (List Int) × Int :=
  if 2 ≤ p.length ∧ (1 ≤ p.getD 0 0 ∧ p.getD 0 0 ≤ 4) ∧ (1 ≤ p.getD 1 0 ∧ p.getD 1 0 ≤ 32) ∧ p.length = 5 + p.getD 0 0 * 292 / 8 then
    if crc (p.take (p.length - 2)) = p.getD (p.length - 2) 0 * 256 + p.getD (p.length - 1) 0 then
      if (mid p).getLastD 0 ≠ 0 ∧ nBits (mid p) = 292 * p.getD 0 0 then
        if okA (tbits p) (p.getD 1 0) (p.getD 0 0) = true then ((List.range (p.getD 0 0)).map (rowN (tbits p) (p.getD 1 0)), 0) else ([], 3)
      else ([], 3)
    else ([], 10)
  else ([], 3)
/-- All of it is new. -/
def PcmNew (w : World) (A : Option Addr) (hs : List (Option Addr × Nat)) : Prop := (∀ ad, A = some ad → w.heap.size ≤ ad.block) ∧ ∀ h ∈ hs, ∀ ad, h.1 = some ad → w.heap.size ≤ ad.block
def PcmC (ls : List (List Int)) (r : Int) (w : World) (e : Ending) (w' : World) : Prop :=
  ∃ A c hs, e = .returned (.tuple #[.slice A ls.length c, .int .i64 r]) ∧ PcmIs w' A hs ls ∧ PcmNew w A hs ∧ Only [] w w'
def TakC (p : List Nat) (w : World) (e : Ending) (w' : World) : Prop := PcmC (TB p).1 (TB p).2 w e w'
theorem PcmIs.nil (w : World) : PcmIs w none [] [] := ⟨rfl, Reads.none_, fun i h l h1 => (by simp at h1), fun i h l h1 => (by simp at h1)⟩
theorem PcmNew.nil (w : World) : PcmNew w none [] := ⟨fun ad h => (by cases h), fun h hh => (by cases hh)⟩
theorem TakC.nil {p : List Nat} {w w' : World} {r : Int} (h : TB p = ([], r)) (ho : Only [] w w') : TakC p w (.returned (.tuple #[.slice none 0 0, .int .i64 r])) w' := by
  unfold TakC
  rw [h]
  exact ⟨none, 0, [], rfl, PcmIs.nil _, PcmNew.nil _, ho⟩
theorem rowN_len (bs : List Bool) (n c : Nat) : (rowN bs n c).length = n := by simp [rowN]
theorem hdrs_rows {gs : List Nat} {bs : List Bool} {n ch : Nat} (hg : gs.length = ch) : rowsV (gs.map fun g => ((some ⟨g, 0, none⟩ : Option Addr), n)) ((List.range ch).map (rowN bs n)) = hdrs gs n ch := by
  unfold rowsV hdrs
  apply List.ext_getElem
  · simp [hg]
  · intro i h1 h2
    have h3 : i < gs.length := by simp at h1; omega
    rw [List.getElem_append_left (by simpa using h3)]
    simp [rowN_len]
theorem pcm_of_hdrs {w : World} {gp : Nat} {gs : List Nat} {bs : List Bool} {n ch : Nat} (hg : gs.length = ch) (hb : Blk w gp 39 (hdrs gs n ch).toArray) (hr : ∀ (i g' : Nat), gs[i]? = some g' → Blk w g' 45 (sV (rowN bs n i)).toArray) :
    PcmIs w (some ⟨gp, 0, none⟩) (gs.map fun g => ((some ⟨g, 0, none⟩ : Option Addr), n)) ((List.range ch).map (rowN bs n)) := by
  refine ⟨by simp [hg], ?_, fun i h l h1 h2 => ?_, fun i h l h1 h2 => ?_⟩
  · rw [hdrs_rows hg]
    exact Reads.of_blk hb _ (by rw [hdrs_len (by omega)]; simp)
  · rw [List.getElem?_map] at h1 h2
    cases hgi : gs[i]? with
    | none => rw [hgi] at h1; cases h1
    | some g' =>
      rw [hgi] at h1
      simp at h1
      subst h1
      cases hri : (List.range ch)[i]? with
      | none => rw [hri] at h2; cases h2
      | some j =>
        rw [hri] at h2
        simp at h2
        subst h2
        obtain ⟨h3, h4⟩ := List.getElem?_eq_some_iff.1 hri
        simp at h4
        subst h4
        exact Reads.of_blk (hr i g' hgi) _ (by simp [sV])
  · have e1 := List.mem_of_getElem? h1
    have e2 := List.mem_of_getElem? h2
    rw [List.mem_map] at e1 e2
    obtain ⟨_, _, rfl⟩ := e1
    obtain ⟨_, _, rfl⟩ := e2
    rw [rowN_len]
    exact Nat.le_refl _
theorem zeroP : (Try.prog.info? 28).map (·.zero) = some (some (.slice none 0 0)) := by kernel_rfl
section
variable {ops : Array Oper} {rest : List Oper} {o : Oper} {a : Act} {w : World} {Q : Exit → Act → World → Prop}
theorem alP (hgd : o.guard = none) (ho : o.op = .alloc 28) (k : ∀ g w', Blk w' g 28 #[.slice none 0 0] → Only [] w w' → w.heap.size ≤ g → wpList Try.prog ops Q rest (a.put o.dst (.pointer (some ⟨g, 0, none⟩))) w') : wpList Try.prog ops Q (o :: rest) a w :=
  wal _ _ hgd ho zeroP rfl k
end
theorem resPE {fn : Func} (h : fn.results = #[.cell 2 28, .cell 3 29]) {tmps : Array Value} {w : World} {g4 g5 n c : Nat} {A : Option Addr} {e : Int} (hb : Blk w g4 28 #[.slice A n c]) (he : Blk w g5 29 #[.int .i64 e])
    (hp : tmps.getD 2 undef = .pointer (some ⟨g4, 0, none⟩)) (hq : tmps.getD 3 undef = .pointer (some ⟨g5, 0, none⟩)) : (results fn tmps).run Try.prog w = .ok (.tuple #[.slice A n c, .int .i64 e]) w := by
  have hp' : tmps[2]?.getD undef = .pointer (some ⟨g4, 0, none⟩) := by simpa using hp
  have hq' : tmps[3]?.getD undef = .pointer (some ⟨g5, 0, none⟩) := by simpa using hq
  have hc1 : w.cell? ⟨g4, 0, none⟩ = some (.slice A n c) := hb.cell 0
  have hc : w.cell? ⟨g5, 0, none⟩ = some (.int .i64 e) := he.cell 0
  have h2 : (loadVar 29 ⟨g5, 0, none⟩).run Try.prog w = .ok (.int .i64 e) w := by
    simp [loadVar, hc, go_sem]
  have h1 : (loadVar 28 ⟨g4, 0, none⟩).run Try.prog w = .ok (.slice A n c) w := by
    simp [loadVar, hc1, go_sem]
  simp [results, h, hp', hq', asAddr, h1, h2]
set_option maxHeartbeats 1000000 in
theorem takeIdle (p q : Addr) (w : World) :
    CallsD Try.prog 32 #[.pointer (some p), .pointer (some q)] .returning w fun e u' w' => e = .returned (.tuple #[]) ∧ u' = .returning ∧ w' = w := by
  refine callsD_of_wpS Try.func32 rfl fun c₀ cs hu => ?_
  apply wpS_seq
  apply wpS_region
  simp [wpOpsS, go_sem, recoverD, hu, Try.ntmps32, Exit.thenS]
  refine wpS_cond (t := false) (by simp [Act.eval, Array.replicate]) ?_
  simp only [Bool.false_eq_true, if_false]
  refine wpS_of_wp (wp_skip ?_)
  exact ⟨rfl, .returning, congrArg (· :: cs) (same_mode hu), .tuple #[], by simp [results, Try.results32], rfl, rfl, rfl⟩
theorem bsz_nat {ch : Nat} (h1 : 1 ≤ ch) (h2 : ch ≤ 4) : bsz (ch : Int) = ((5 + ch * 292 / 8 : Nat) : Int) := by
  unfold bsz
  rw [if_neg (by omega)]
  omega
theorem first_two {p : List Nat} (h : 2 ≤ p.length) : ∃ x y, p[0]? = some x ∧ p[1]? = some y ∧ p.getD 0 0 = x ∧ p.getD 1 0 = y := by
  match p, h with
  | x :: y :: m, _ => exact ⟨x, y, rfl, rfl, rfl, rfl⟩
set_option maxRecDepth 100000 in
set_option maxHeartbeats 4000000 in
theorem takeBlock_any (w : World) (A : Option Addr) (c : Nat) (p : List Nat) (hr : Reads w A 1 p.length (bytesV p)) (hc : p.length ≤ c) (hp : ∀ x ∈ p, x < 256) (hl : p.length ≤ 1000000000) :
    Calls Try.prog 17 #[.slice A p.length c] w (TakC p w) := by
  have hmf : ∀ (fn : Fn) (first cap : Array Value) (w : World), (Instr.makeFunc fn first cap).run Try.prog w = .ok (.func fn first cap) w := fun _ _ _ _ => rfl
  have HRD := Lib.hid hr
  have HPX := Lib.hid hp
  clear hr hp
  go_enter_defers Try.func17, Try.ntmps17
  have tok : True := trivial
  have tok2 : True := trivial
  by_cases h2 : p.length < 2
  · have h2d : (p.length : Int) < 2 := by omega
    have HE := Lib.hid (show TB p = ([], 3) by unfold TB; rw [if_neg (by omega)])
    clear h2
    go_wp2_with (first | (clear tok; refine alP rfl rfl ?_; rintro g2 w1 b1 o1 l1; have hst := o1.size) | (clear tok2; refine alE rfl rfl ?_; rintro g3 w2 b3 o2 l2; have b2 := b1.only o2 (by simp); have ho2 := o1.then o2; have h23 : g2 ≠ g3 := (by have := b1.lt; omega); have hg3 : w.heap.size ≤ g3 := (by omega); have c2 : w2.cell? ⟨g2, 0, none⟩ = some (.slice none 0 0) := b2.cell 0; have z2 := b2.frozen 0; obtain ⟨s1, s2⟩ := b2.set1 0 (.slice none 0 0); have b3' := b3.far (p := ⟨g2, 0, none⟩) (Ne.symm h23) (.slice none 0 0); have c3 : (w2.setCell ⟨g2, 0, none⟩ (.slice none 0 0)).cell? ⟨g3, 0, none⟩ = some (.int .i64 0) := b3'.cell 0; have z3 := b3'.frozen 0; obtain ⟨t1, t2⟩ := b3'.set1 0 (.int .i64 3); have S1 := Lib.hid (s1.far (p := ⟨g3, 0, none⟩) h23 (.int .i64 3)); have T1 := Lib.hid t1; have HOx := Lib.hid ((ho2.first s2 (by simp; exact l1)).first t2 (by simp; exact hg3)); have HOy := Lib.hid (show Only [g2, g3] w2 ((w2.setCell ⟨g2, 0, none⟩ (.slice none 0 0)).setCell ⟨g3, 0, none⟩ (.int .i64 3)) from (s2.mono (by simp)).trans (t2.mono (by simp)) (Fresh.refl _ _)); clear s1 s2 t1 t2 b3'))
    refine leaves_cons (f := 32) (args := #[.pointer (some ⟨g2, 0, none⟩), .pointer (some ⟨g3, 0, none⟩)]) (by simp) (by simp [go_sem]) ?_
    refine (takeIdle ⟨g2, 0, none⟩ ⟨g3, 0, none⟩ _).mono ?_
    rintro e u' w'' ⟨rfl, rfl, rfl⟩
    exact ⟨_, resPE rfl S1.out T1.out rfl rfl, TakC.nil HE.out HOx.out⟩
  · have h2d : decide ((p.length : Int) < 2) = false := decide_eq_false (by omega)
    have h2p : 2 ≤ p.length := by omega
    clear h2
    go_wp2_with (first | (clear tok; refine alP rfl rfl ?_; rintro g2 w1 b1 o1 l1; have hst := o1.size) | (clear tok2; refine alE rfl rfl ?_; rintro g3 w2 b3 o2 l2; have b2 := b1.only o2 (by simp); have ho2 := o1.then o2; have h23 : g2 ≠ g3 := (by have := b1.lt; omega); have hg3 : w.heap.size ≤ g3 := (by omega)))
    clear h2d b1 o1 o2 hst hmf
    obtain ⟨x, y, hx0, hy0, hx1, hy1⟩ := first_two h2p
    have hx8 := HPX.out x (List.mem_of_getElem? hx0)
    have hy8 := HPX.out y (List.mem_of_getElem? hy0)
    obtain ⟨b, off, rfl, hcell⟩ := HRD.out.plain (by omega) (by omega)
    have cx := hcell 0 (.int .u8 (x : Int)) (by simp [bytesV, hx0])
    have cy := hcell 1 (.int .u8 (y : Int)) (by simp [bytesV, hy0])
    rw [Nat.add_zero] at cx
    have fx0 : ∀ w', Cls w2 w' → w'.cell? ⟨b, off, none⟩ = some (.int .u8 (x : Int)) := fun w' h => (Cls.cell (show Cls w w' from ho2.then h) cx)
    have fy0 : ∀ w', Cls w2 w' → w'.cell? ⟨b, off + 1, none⟩ = some (.int .u8 (y : Int)) := fun w' h => (Cls.cell (show Cls w w' from ho2.then h) cy)
    have HX := Lib.hid hx1
    have HY := Lib.hid hy1
    have hp0 : (0 : Int) < (p.length : Int) := by omega
    have hp1 : (1 : Int) < (p.length : Int) := by omega
    clear hx0 hy0 hx1 hy1 hcell cx cy
    refine rgn (Cls w2) (by kernel_rfl) (by kernel_rfl) Cls.refl ?_
    refine qW (.slice (some ⟨b, off, none⟩) p.length c) rfl rfl (fun w hC K hK => ?_) ?_
    · have fx := fx0 w hC; have fy := fy0 w hC; (go_wp2_with fail) <;> (first | exact hC | exact hK _ hC)
    simp only [Act.put, List.setIfInBounds_toArray, List.set_cons_zero, List.set_cons_succ]
    refine qW (.pointer (some ⟨b, off, none⟩)) rfl rfl (fun w hC K hK => ?_) ?_
    · have fx := fx0 w hC; have fy := fy0 w hC; (go_wp2_with fail) <;> (first | exact hC | exact hK _ hC)
    simp only [Act.put, List.setIfInBounds_toArray, List.set_cons_zero, List.set_cons_succ]
    refine qW (.int .u8 (x : Int)) rfl rfl (fun w hC K hK => ?_) ?_
    · have fx := fx0 w hC; have fy := fy0 w hC; (go_wp2_with fail) <;> (first | exact hC | exact hK _ hC)
    simp only [Act.put, List.setIfInBounds_toArray, List.set_cons_zero, List.set_cons_succ]
    refine qW (.int .i64 (x : Int)) rfl rfl (fun w hC K hK => ?_) ?_
    · have fx := fx0 w hC; have fy := fy0 w hC; (go_wp2_with fail) <;> (first | exact hC | exact hK _ hC)
    simp only [Act.put, List.setIfInBounds_toArray, List.set_cons_zero, List.set_cons_succ]
    refine qW (.slice (some ⟨b, off, none⟩) p.length c) rfl rfl (fun w hC K hK => ?_) ?_
    · have fx := fx0 w hC; have fy := fy0 w hC; (go_wp2_with fail) <;> (first | exact hC | exact hK _ hC)
    simp only [Act.put, List.setIfInBounds_toArray, List.set_cons_zero, List.set_cons_succ]
    refine qW (.pointer (some ⟨b, off + 1, none⟩)) rfl rfl (fun w hC K hK => ?_) ?_
    · have fx := fx0 w hC; have fy := fy0 w hC; (go_wp2_with fail) <;> (first | exact hC | exact hK _ hC)
    simp only [Act.put, List.setIfInBounds_toArray, List.set_cons_zero, List.set_cons_succ]
    refine qW (.int .u8 (y : Int)) rfl rfl (fun w hC K hK => ?_) ?_
    · have fx := fx0 w hC; have fy := fy0 w hC; (go_wp2_with fail) <;> (first | exact hC | exact hK _ hC)
    simp only [Act.put, List.setIfInBounds_toArray, List.set_cons_zero, List.set_cons_succ]
    refine qW (.int .i64 (y : Int)) rfl rfl (fun w hC K hK => ?_) ?_
    · have fx := fx0 w hC; have fy := fy0 w hC; (go_wp2_with fail) <;> (first | exact hC | exact hK _ hC)
    simp only [Act.put, List.setIfInBounds_toArray, List.set_cons_zero, List.set_cons_succ]
    refine qW (.int .i64 (x : Int)) rfl rfl (fun w hC K hK => ?_) ?_
    · have fx := fx0 w hC; have fy := fy0 w hC; (go_wp2_with fail) <;> (first | exact hC | exact hK _ hC)
    simp only [Act.put, List.setIfInBounds_toArray, List.set_cons_zero, List.set_cons_succ]
    refine qW (.int .i64 (y : Int)) rfl rfl (fun w hC K hK => ?_) ?_
    · have fx := fx0 w hC; have fy := fy0 w hC; (go_wp2_with fail) <;> (first | exact hC | exact hK _ hC)
    simp only [Act.put, List.setIfInBounds_toArray, List.set_cons_zero, List.set_cons_succ]
    refine qN ?_
    intro w3 hw3
    have b23 := b2.only hw3 (by simp)
    have b33 := b3.only hw3 (by simp)
    have ho3 : Only [] w w3 := ho2.then hw3
    clear fx0 fy0 hp0 hp1 b2 b3 ho2 hw3
    by_cases hx1 : x < 1
    · have HE := Lib.hid (show TB p = ([], 3) by unfold TB; rw [if_neg (by rw [HX.out]; omega)])
      have hx1' : (x : Int) < 1 := by omega
      clear hx1
      have c2 : w3.cell? ⟨g2, 0, none⟩ = some (.slice none 0 0) := b23.cell 0
      have z2 := b23.frozen 0
      obtain ⟨s1, s2⟩ := b23.set1 0 (.slice none 0 0)
      have b3' := b33.far (p := ⟨g2, 0, none⟩) (Ne.symm h23) (.slice none 0 0)
      have c3 : (w3.setCell ⟨g2, 0, none⟩ (.slice none 0 0)).cell? ⟨g3, 0, none⟩ = some (.int .i64 0) := b3'.cell 0
      have z3 := b3'.frozen 0
      obtain ⟨t1, t2⟩ := b3'.set1 0 (.int .i64 3)
      have S1 := Lib.hid (s1.far (p := ⟨g3, 0, none⟩) h23 (.int .i64 3))
      have T1 := Lib.hid t1
      have HOx := Lib.hid ((ho3.first s2 (by simp; exact l1)).first t2 (by simp; exact hg3))
      have HOy := Lib.hid (show Only [g2, g3] w3 ((w3.setCell ⟨g2, 0, none⟩ (.slice none 0 0)).setCell ⟨g3, 0, none⟩ (.int .i64 3)) from (s2.mono (by simp)).trans (t2.mono (by simp)) (Fresh.refl _ _))
      clear s1 s2 t1 t2 b3'
      go_wp2_with fail
      refine leaves_cons (f := 32) (args := #[.pointer (some ⟨g2, 0, none⟩), .pointer (some ⟨g3, 0, none⟩)]) (by simp) (by simp [go_sem]) ?_
      refine (takeIdle ⟨g2, 0, none⟩ ⟨g3, 0, none⟩ _).mono ?_
      rintro e u' w'' ⟨rfl, rfl, rfl⟩
      exact ⟨_, resPE rfl S1.out T1.out rfl rfl, TakC.nil HE.out HOx.out⟩
    have hxd1 : decide ((x : Int) < 1) = false := decide_eq_false (by omega)
    by_cases hx2 : 4 < x
    · have HE := Lib.hid (show TB p = ([], 3) by unfold TB; rw [if_neg (by rw [HX.out]; omega)])
      have hx2' : (4 : Int) < (x : Int) := by omega
      clear hx1 hx2
      have c2 : w3.cell? ⟨g2, 0, none⟩ = some (.slice none 0 0) := b23.cell 0
      have z2 := b23.frozen 0
      obtain ⟨s1, s2⟩ := b23.set1 0 (.slice none 0 0)
      have b3' := b33.far (p := ⟨g2, 0, none⟩) (Ne.symm h23) (.slice none 0 0)
      have c3 : (w3.setCell ⟨g2, 0, none⟩ (.slice none 0 0)).cell? ⟨g3, 0, none⟩ = some (.int .i64 0) := b3'.cell 0
      have z3 := b3'.frozen 0
      obtain ⟨t1, t2⟩ := b3'.set1 0 (.int .i64 3)
      have S1 := Lib.hid (s1.far (p := ⟨g3, 0, none⟩) h23 (.int .i64 3))
      have T1 := Lib.hid t1
      have HOx := Lib.hid ((ho3.first s2 (by simp; exact l1)).first t2 (by simp; exact hg3))
      have HOy := Lib.hid (show Only [g2, g3] w3 ((w3.setCell ⟨g2, 0, none⟩ (.slice none 0 0)).setCell ⟨g3, 0, none⟩ (.int .i64 3)) from (s2.mono (by simp)).trans (t2.mono (by simp)) (Fresh.refl _ _))
      clear s1 s2 t1 t2 b3'
      go_wp2_with fail
      refine leaves_cons (f := 32) (args := #[.pointer (some ⟨g2, 0, none⟩), .pointer (some ⟨g3, 0, none⟩)]) (by simp) (by simp [go_sem]) ?_
      refine (takeIdle ⟨g2, 0, none⟩ ⟨g3, 0, none⟩ _).mono ?_
      rintro e u' w'' ⟨rfl, rfl, rfl⟩
      exact ⟨_, resPE rfl S1.out T1.out rfl rfl, TakC.nil HE.out HOx.out⟩
    have hxd2 : decide ((4 : Int) < (x : Int)) = false := decide_eq_false (by omega)
    by_cases hy1 : y < 1
    · have HE := Lib.hid (show TB p = ([], 3) by unfold TB; rw [if_neg (by rw [HY.out]; omega)])
      have hy1' : (y : Int) < 1 := by omega
      clear hx1 hx2 hy1
      have c2 : w3.cell? ⟨g2, 0, none⟩ = some (.slice none 0 0) := b23.cell 0
      have z2 := b23.frozen 0
      obtain ⟨s1, s2⟩ := b23.set1 0 (.slice none 0 0)
      have b3' := b33.far (p := ⟨g2, 0, none⟩) (Ne.symm h23) (.slice none 0 0)
      have c3 : (w3.setCell ⟨g2, 0, none⟩ (.slice none 0 0)).cell? ⟨g3, 0, none⟩ = some (.int .i64 0) := b3'.cell 0
      have z3 := b3'.frozen 0
      obtain ⟨t1, t2⟩ := b3'.set1 0 (.int .i64 3)
      have S1 := Lib.hid (s1.far (p := ⟨g3, 0, none⟩) h23 (.int .i64 3))
      have T1 := Lib.hid t1
      have HOx := Lib.hid ((ho3.first s2 (by simp; exact l1)).first t2 (by simp; exact hg3))
      have HOy := Lib.hid (show Only [g2, g3] w3 ((w3.setCell ⟨g2, 0, none⟩ (.slice none 0 0)).setCell ⟨g3, 0, none⟩ (.int .i64 3)) from (s2.mono (by simp)).trans (t2.mono (by simp)) (Fresh.refl _ _))
      clear s1 s2 t1 t2 b3'
      go_wp2_with fail
      refine leaves_cons (f := 32) (args := #[.pointer (some ⟨g2, 0, none⟩), .pointer (some ⟨g3, 0, none⟩)]) (by simp) (by simp [go_sem]) ?_
      refine (takeIdle ⟨g2, 0, none⟩ ⟨g3, 0, none⟩ _).mono ?_
      rintro e u' w'' ⟨rfl, rfl, rfl⟩
      exact ⟨_, resPE rfl S1.out T1.out rfl rfl, TakC.nil HE.out HOx.out⟩
    have hyd1 : decide ((y : Int) < 1) = false := decide_eq_false (by omega)
    by_cases hy2 : 32 < y
    · have HE := Lib.hid (show TB p = ([], 3) by unfold TB; rw [if_neg (by rw [HY.out]; omega)])
      have hy2' : (32 : Int) < (y : Int) := by omega
      clear hx1 hx2 hy1 hy2
      have c2 : w3.cell? ⟨g2, 0, none⟩ = some (.slice none 0 0) := b23.cell 0
      have z2 := b23.frozen 0
      obtain ⟨s1, s2⟩ := b23.set1 0 (.slice none 0 0)
      have b3' := b33.far (p := ⟨g2, 0, none⟩) (Ne.symm h23) (.slice none 0 0)
      have c3 : (w3.setCell ⟨g2, 0, none⟩ (.slice none 0 0)).cell? ⟨g3, 0, none⟩ = some (.int .i64 0) := b3'.cell 0
      have z3 := b3'.frozen 0
      obtain ⟨t1, t2⟩ := b3'.set1 0 (.int .i64 3)
      have S1 := Lib.hid (s1.far (p := ⟨g3, 0, none⟩) h23 (.int .i64 3))
      have T1 := Lib.hid t1
      have HOx := Lib.hid ((ho3.first s2 (by simp; exact l1)).first t2 (by simp; exact hg3))
      have HOy := Lib.hid (show Only [g2, g3] w3 ((w3.setCell ⟨g2, 0, none⟩ (.slice none 0 0)).setCell ⟨g3, 0, none⟩ (.int .i64 3)) from (s2.mono (by simp)).trans (t2.mono (by simp)) (Fresh.refl _ _))
      clear s1 s2 t1 t2 b3'
      go_wp2_with fail
      refine leaves_cons (f := 32) (args := #[.pointer (some ⟨g2, 0, none⟩), .pointer (some ⟨g3, 0, none⟩)]) (by simp) (by simp [go_sem]) ?_
      refine (takeIdle ⟨g2, 0, none⟩ ⟨g3, 0, none⟩ _).mono ?_
      rintro e u' w'' ⟨rfl, rfl, rfl⟩
      exact ⟨_, resPE rfl S1.out T1.out rfl rfl, TakC.nil HE.out HOx.out⟩
    have hyd2 : decide ((32 : Int) < (y : Int)) = false := decide_eq_false (by omega)
    have hx14 : 1 ≤ x ∧ x ≤ 4 := by omega
    have hy132 : 1 ≤ y ∧ y ≤ 32 := by omega
    clear hx1 hx2 hy1 hy2
    go_wp2_with fail
    clear hxd1 hxd2 hyd1 hyd2
    refine (blockSize_any _ (x : Int) (by omega)).mono ?_
    rintro e w4 ⟨rfl, rfl⟩
    rw [bsz_nat hx14.1 hx14.2]
    by_cases hls : p.length = 5 + x * 292 / 8
    rotate_left
    · have HE := Lib.hid (show TB p = ([], 3) by unfold TB; rw [if_neg (by rw [HX.out]; omega)])
      have hlsd : ((p.length : Int) != ((5 + x * 292 / 8 : Nat) : Int)) = true := by simp; omega
      generalize 5 + x * 292 / 8 = L at hls hlsd ⊢
      clear hls
      have c2 : w3.cell? ⟨g2, 0, none⟩ = some (.slice none 0 0) := b23.cell 0
      have z2 := b23.frozen 0
      obtain ⟨s1, s2⟩ := b23.set1 0 (.slice none 0 0)
      have b3' := b33.far (p := ⟨g2, 0, none⟩) (Ne.symm h23) (.slice none 0 0)
      have c3 : (w3.setCell ⟨g2, 0, none⟩ (.slice none 0 0)).cell? ⟨g3, 0, none⟩ = some (.int .i64 0) := b3'.cell 0
      have z3 := b3'.frozen 0
      obtain ⟨t1, t2⟩ := b3'.set1 0 (.int .i64 3)
      have S1 := Lib.hid (s1.far (p := ⟨g3, 0, none⟩) h23 (.int .i64 3))
      have T1 := Lib.hid t1
      have HOx := Lib.hid ((ho3.first s2 (by simp; exact l1)).first t2 (by simp; exact hg3))
      have HOy := Lib.hid (show Only [g2, g3] w3 ((w3.setCell ⟨g2, 0, none⟩ (.slice none 0 0)).setCell ⟨g3, 0, none⟩ (.int .i64 3)) from (s2.mono (by simp)).trans (t2.mono (by simp)) (Fresh.refl _ _))
      clear s1 s2 t1 t2 b3'
      go_wp2_with fail
      refine leaves_cons (f := 32) (args := #[.pointer (some ⟨g2, 0, none⟩), .pointer (some ⟨g3, 0, none⟩)]) (by simp) (by simp [go_sem]) ?_
      refine (takeIdle ⟨g2, 0, none⟩ ⟨g3, 0, none⟩ _).mono ?_
      rintro e u' w'' ⟨rfl, rfl, rfl⟩
      exact ⟨_, resPE rfl S1.out T1.out rfl rfl, TakC.nil HE.out HOx.out⟩
    have hlsd : ((p.length : Int) != ((5 + x * 292 / 8 : Nat) : Int)) = false := by simp; omega
    have HLS := Lib.hid hls
    generalize 5 + x * 292 / 8 = L at hlsd ⊢
    clear hls
    have hpb : p.length ≤ 151 := by have := HLS.out; omega
    have hpa : 41 ≤ p.length := by have := HLS.out; omega
    have HC0 := Lib.hid (show 2 ≤ p.length ∧ (1 ≤ p.getD 0 0 ∧ p.getD 0 0 ≤ 4) ∧ (1 ≤ p.getD 1 0 ∧ p.getD 1 0 ≤ 32) ∧ p.length = 5 + p.getD 0 0 * 292 / 8 by rw [HX.out, HY.out]; exact ⟨h2p, hx14, hy132, HLS.out⟩)
    obtain ⟨q, u, v, hpq, hqt⟩ := two_last h2p
    have hql : p.length = q.length + 2 := by rw [hpq]; simp
    have hu : p.getD (p.length - 2) 0 = u := by rw [hql, hpq]; simp
    have hv : p.getD (p.length - 1) 0 = v := by rw [hql, hpq]; simp
    have HCS := Lib.hid (show Calls Try.prog 33 #[.slice (some ⟨b, off, none⟩) p.length c] w3 fun e w' => e = .returned (.bool (decide (crc q = u * 256 + v))) ∧ Only [] w3 w' by
      have hb : ∀ z ∈ q ++ [u, v], z < 256 := by rw [← hpq]; exact HPX.out
      have h1 : Reads w3 (some ⟨b, off, none⟩) 1 (q.length + 2) (bytesV (q ++ [u, v])) := by rw [← hpq, ← hql]; exact HRD.out.then ho3
      rw [hql]
      exact hasSum_any w3 _ c q u v h1 (by omega) (fun z hz => hb z (by simp [hz])) (hb u (by simp)) (hb v (by simp)) (by omega))
    have HSUM := Lib.hid (show (crc (p.take (p.length - 2)) = p.getD (p.length - 2) 0 * 256 + p.getD (p.length - 1) 0) = (crc q = u * 256 + v) by rw [← hqt, hu, hv])
    clear hpq hqt hql hu hv
    go_wp2_with fail
    refine HCS.out.mono ?_
    rintro e w4 ⟨rfl, o4⟩
    have b24 := b23.only o4 (by simp)
    have b34 := b33.only o4 (by simp)
    have ho4 := ho3.then o4
    clear HCS b23 b33 ho3 o4 hlsd
    by_cases hsum : crc q = u * 256 + v
    rotate_left
    · have HE := Lib.hid (show TB p = ([], 10) by unfold TB; rw [if_pos HC0.out, if_neg (by rw [HSUM.out]; exact hsum)])
      rw [decide_eq_false hsum]
      clear hsum
      have c2 : w4.cell? ⟨g2, 0, none⟩ = some (.slice none 0 0) := b24.cell 0
      have z2 := b24.frozen 0
      obtain ⟨s1, s2⟩ := b24.set1 0 (.slice none 0 0)
      have b3' := b34.far (p := ⟨g2, 0, none⟩) (Ne.symm h23) (.slice none 0 0)
      have c3 : (w4.setCell ⟨g2, 0, none⟩ (.slice none 0 0)).cell? ⟨g3, 0, none⟩ = some (.int .i64 0) := b3'.cell 0
      have z3 := b3'.frozen 0
      obtain ⟨t1, t2⟩ := b3'.set1 0 (.int .i64 10)
      have S1 := Lib.hid (s1.far (p := ⟨g3, 0, none⟩) h23 (.int .i64 10))
      have T1 := Lib.hid t1
      have HOx := Lib.hid ((ho4.first s2 (by simp; exact l1)).first t2 (by simp; exact hg3))
      have HOy := Lib.hid (show Only [g2, g3] w4 ((w4.setCell ⟨g2, 0, none⟩ (.slice none 0 0)).setCell ⟨g3, 0, none⟩ (.int .i64 10)) from (s2.mono (by simp)).trans (t2.mono (by simp)) (Fresh.refl _ _))
      clear s1 s2 t1 t2 b3'
      go_wp2_with fail
      refine leaves_cons (f := 32) (args := #[.pointer (some ⟨g2, 0, none⟩), .pointer (some ⟨g3, 0, none⟩)]) (by simp) (by simp [go_sem]) ?_
      refine (takeIdle ⟨g2, 0, none⟩ ⟨g3, 0, none⟩ _).mono ?_
      rintro e u' w'' ⟨rfl, rfl, rfl⟩
      exact ⟨_, resPE rfl S1.out T1.out rfl rfl, TakC.nil HE.out HOx.out⟩
    rw [decide_eq_true hsum]
    have HS1 := Lib.hid (show crc (p.take (p.length - 2)) = p.getD (p.length - 2) 0 * 256 + p.getD (p.length - 1) 0 by rw [HSUM.out]; exact hsum)
    clear hsum HSUM
    obtain ⟨A2, hA2⟩ : ∃ A2 : Option Addr, A2 = (if c = 2 then (some ⟨b, off, none⟩ : Option Addr) else (some ⟨b, off, none⟩ : Option Addr).map (·.add (2 * 1))) := ⟨_, rfl⟩
    obtain ⟨m2, hm2⟩ : ∃ m2, m2 = p.length - 2 - 2 := ⟨_, rfl⟩
    have HRM := Lib.hid (show Reads w A2 1 m2 (bytesV (mid p)) by
      have := HRD.out.sub (j := 2) (m := p.length - 2) (c := c) (by omega) (by omega) hc
      rw [bytesV_sub] at this
      rw [hA2, hm2]; exact this)
    have HPM := Lib.hid (show ∀ z ∈ mid p, z < 256 from fun z hz => HPX.out z (List.mem_of_mem_take (List.mem_of_mem_drop hz)))
    have HA2 := Lib.hid hA2
    have HM2 := Lib.hid hm2
    have HI2 := Lib.hid (show (p.length : Int) - 2 = ((p.length - 2 : Nat) : Int) by omega)
    have hm2l : m2 ≤ 151 := by omega
    obtain ⟨c2, hc2⟩ : ∃ c2, c2 = c - 2 := ⟨_, rfl⟩
    have HC2 := Lib.hid hc2
    clear hA2 hm2 hc2
    have tok : True := trivial
    go_wp2_with (first | (clear tok; refine arm_cut Try.underlying22 sz_u8 2 (p.length - 2) (by omega) (by omega) rfl rfl rfl rfl (congrArg (Value.int .i64) HI2.out) ?_; rw [← HA2.out, ← HM2.out, ← HC2.out]))
    clear HA2 HM2 HC2 HI2
    by_cases hlast : (mid p).getLastD 0 = 0
    · have HE := Lib.hid (show TB p = ([], 3) by unfold TB; rw [if_pos HC0.out, if_pos HS1.out, if_neg (fun h => h.1 hlast)])
      refine (newReader_none _ A2 m2 c2 (mid p) (HRM.out.then ho4) (by omega) hlast).mono ?_
      rintro e w5 ⟨rfl, rfl⟩
      clear hlast
      have c34 : w4.cell? ⟨g3, 0, none⟩ = some (.int .i64 0) := b34.cell 0
      have z34 := b34.frozen 0
      obtain ⟨u1, u2⟩ := b34.set1 0 (.int .i64 3)
      have b25 := b24.far (p := ⟨g3, 0, none⟩) h23 (.int .i64 3)
      have ho5 := ho4.first u2 (by simp; exact hg3)
      have cl5 : (w4.setCell ⟨g3, 0, none⟩ (.int .i64 3)).cell? ⟨g3, 0, none⟩ = some (.int .i64 3) := u1.cell 0
      clear u2
      have c2 : (w4.setCell ⟨g3, 0, none⟩ (.int .i64 3)).cell? ⟨g2, 0, none⟩ = some (.slice none 0 0) := b25.cell 0
      have z2 := b25.frozen 0
      obtain ⟨s1, s2⟩ := b25.set1 0 (.slice none 0 0)
      have b3' := u1.far (p := ⟨g2, 0, none⟩) (Ne.symm h23) (.slice none 0 0)
      have c3 : ((w4.setCell ⟨g3, 0, none⟩ (.int .i64 3)).setCell ⟨g2, 0, none⟩ (.slice none 0 0)).cell? ⟨g3, 0, none⟩ = some (.int .i64 3) := b3'.cell 0
      have z3 := b3'.frozen 0
      obtain ⟨t1, t2⟩ := b3'.set1 0 (.int .i64 3)
      have S1 := Lib.hid (s1.far (p := ⟨g3, 0, none⟩) h23 (.int .i64 3))
      have T1 := Lib.hid t1
      have HOx := Lib.hid ((ho5.first s2 (by simp; exact l1)).first t2 (by simp; exact hg3))
      have HOy := Lib.hid (show Only [g2, g3] (w4.setCell ⟨g3, 0, none⟩ (.int .i64 3)) (((w4.setCell ⟨g3, 0, none⟩ (.int .i64 3)).setCell ⟨g2, 0, none⟩ (.slice none 0 0)).setCell ⟨g3, 0, none⟩ (.int .i64 3)) from (s2.mono (by simp)).trans (t2.mono (by simp)) (Fresh.refl _ _))
      clear s1 s2 t1 t2 b3'
      go_wp2_with fail
      refine leaves_cons (f := 32) (args := #[.pointer (some ⟨g2, 0, none⟩), .pointer (some ⟨g3, 0, none⟩)]) (by simp) (by simp [go_sem]) ?_
      refine (takeIdle ⟨g2, 0, none⟩ ⟨g3, 0, none⟩ _).mono ?_
      rintro e u' w'' ⟨rfl, rfl, rfl⟩
      exact ⟨_, resPE rfl S1.out T1.out rfl rfl, TakC.nil HE.out HOx.out⟩
    · obtain ⟨nb, hnb⟩ : ∃ nb, nb = nBits (mid p) := ⟨_, rfl⟩
      refine (newReader_some _ A2 m2 c2 (mid p) (HRM.out.then ho4) (by omega) HPM.out hlast).mono ?_
      rintro e w5 ⟨rfl, hrd, o5⟩
      obtain ⟨gr, hgr⟩ : ∃ gr, gr = w4.heap.size + 1 := ⟨_, rfl⟩
      obtain ⟨gb, hgb⟩ : ∃ gb, gb = w4.heap.size := ⟨_, rfl⟩
      rw [← hgr, ← hgb, ← hnb] at hrd
      rw [← hgr]
      have hs4 := ho4.size
      have hgl := b24.lt
      have hgl3 := b34.lt
      have b25 := b24.only o5 (by simp)
      have b35 := b34.only o5 (by simp)
      have ho5 := ho4.then o5
      have hgrr : w.heap.size ≤ gr ∧ gr ≠ g2 ∧ gr ≠ g3 ∧ gb ≠ g2 ∧ gb ≠ g3 := by omega
      clear o5 b24 b34 ho4 hgr hgb
      have c35 : w5.cell? ⟨g3, 0, none⟩ = some (.int .i64 0) := b35.cell 0
      have z35 := b35.frozen 0
      obtain ⟨u1, u2⟩ := b35.set1 0 (.int .i64 0)
      have b26 := b25.far (p := ⟨g3, 0, none⟩) h23 (.int .i64 0)
      have ho6 := ho5.first u2 (by simp; exact hg3)
      have cl6 : (w5.setCell ⟨g3, 0, none⟩ (.int .i64 0)).cell? ⟨g3, 0, none⟩ = some (.int .i64 0) := u1.cell 0
      have hrd6 := hrd.only u2 (by simp; omega) (by simp; omega)
      have HNB := Lib.hid hnb
      have HLT := Lib.hid hlast
      clear hnb hlast hrd u2
      go_wp2_with fail
      clear c35 z35 cl6
      generalize w5.setCell ⟨g3, 0, none⟩ (.int .i64 0) = w6 at u1 b26 ho6 hrd6 ⊢
      refine (left_any _ gr gb (mid p) nb 0 hrd6).mono ?_
      rintro e w7 ⟨rfl, rfl⟩
      rw [show ((nb : Nat) : Int) - ((0 : Nat) : Int) = (nb : Int) by omega]
      have b27 := b26.drew
      have b37 := u1.drew
      have ho7 := ho6.drew
      have hrd7 := ReaderIs.drew hrd6
      clear b26 u1 ho6 hrd6 b25 b35 ho5
      generalize w6.drew = w7 at b27 b37 ho7 hrd7 ⊢
      by_cases hnbx : nb = 292 * x
      rotate_left
      · have HE := Lib.hid (show TB p = ([], 3) by unfold TB; rw [if_pos HC0.out, if_pos HS1.out, if_neg (fun h => hnbx (by rw [HNB.out, h.2, HX.out]))])
        have hnd : ((nb : Int) != (x : Int) * 292) = true := by simp; omega
        clear hnbx
        have c2 : w7.cell? ⟨g2, 0, none⟩ = some (.slice none 0 0) := b27.cell 0
        have z2 := b27.frozen 0
        obtain ⟨s1, s2⟩ := b27.set1 0 (.slice none 0 0)
        have b3' := b37.far (p := ⟨g2, 0, none⟩) (Ne.symm h23) (.slice none 0 0)
        have c3 : (w7.setCell ⟨g2, 0, none⟩ (.slice none 0 0)).cell? ⟨g3, 0, none⟩ = some (.int .i64 0) := b3'.cell 0
        have z3 := b3'.frozen 0
        obtain ⟨t1, t2⟩ := b3'.set1 0 (.int .i64 3)
        have S1 := Lib.hid (s1.far (p := ⟨g3, 0, none⟩) h23 (.int .i64 3))
        have T1 := Lib.hid t1
        have HOx := Lib.hid ((ho7.first s2 (by simp; exact l1)).first t2 (by simp; exact hg3))
        have HOy := Lib.hid (show Only [g2, g3] w7 ((w7.setCell ⟨g2, 0, none⟩ (.slice none 0 0)).setCell ⟨g3, 0, none⟩ (.int .i64 3)) from (s2.mono (by simp)).trans (t2.mono (by simp)) (Fresh.refl _ _))
        clear s1 s2 t1 t2 b3'
        go_wp2_with fail
        refine leaves_cons (f := 32) (args := #[.pointer (some ⟨g2, 0, none⟩), .pointer (some ⟨g3, 0, none⟩)]) (by simp) (by simp [go_sem]) ?_
        refine (takeIdle ⟨g2, 0, none⟩ ⟨g3, 0, none⟩ _).mono ?_
        rintro e u' w'' ⟨rfl, rfl, rfl⟩
        exact ⟨_, resPE rfl S1.out T1.out rfl rfl, TakC.nil HE.out HOx.out⟩
      have hnd : ((nb : Int) != (x : Int) * 292) = false := by simp; omega
      have HOKB := Lib.hid (show (mid p).getLastD 0 ≠ 0 ∧ nBits (mid p) = 292 * p.getD 0 0 by rw [HX.out, ← HNB.out]; exact ⟨HLT.out, hnbx⟩)
      have HTB := Lib.hid (show tbits p = bitsIn (mid p) nb by unfold tbits; rw [HNB.out])
      have HCT := Lib.hid (takeChannels_any w7 gr gb x y nb (mid p) hrd7 hnbx hx14 hy132)
      clear hnbx
      go_wp2_with fail
      refine HCT.out.mono ?_
      rintro e w8 ⟨o8, hT⟩
      have b28 := b27.only o8 (by simp; omega)
      have b38 := b37.only o8 (by simp; omega)
      have ho8 := ho7.first o8 (by simp; exact hgrr.1)
      have hs7 := ho7.size
      have hl27 := b27.lt
      have hl37 := b37.lt
      clear HCT hrd7 b27 b37 hnd
      rcases hT with ⟨hok, rfl⟩ | ⟨hok, gp, gs, hgs, rfl, hbp, hbr, hgp⟩
      · have HE := Lib.hid (show TB p = ([], 3) by unfold TB; rw [if_pos HC0.out, if_pos HS1.out, if_pos HOKB.out, if_neg (by rw [HTB.out, HX.out, HY.out, hok]; decide)])
        clear hok ho7
        have c28 : w8.cell? ⟨g2, 0, none⟩ = some (.slice none 0 0) := b28.cell 0
        have z28 := b28.frozen 0
        obtain ⟨u1, u2⟩ := b28.set1 0 (.slice none 0 0)
        have b39 := b38.far (p := ⟨g2, 0, none⟩) (Ne.symm h23) (.slice none 0 0)
        have ho9 := ho8.first u2 (by simp; exact l1)
        clear u2
        have c2 : (w8.setCell ⟨g2, 0, none⟩ (.slice none 0 0)).cell? ⟨g2, 0, none⟩ = some (.slice none 0 0) := u1.cell 0
        have z2 := u1.frozen 0
        obtain ⟨s1, s2⟩ := u1.set1 0 (.slice none 0 0)
        have b3' := b39.far (p := ⟨g2, 0, none⟩) (Ne.symm h23) (.slice none 0 0)
        have c3 : ((w8.setCell ⟨g2, 0, none⟩ (.slice none 0 0)).setCell ⟨g2, 0, none⟩ (.slice none 0 0)).cell? ⟨g3, 0, none⟩ = some (.int .i64 0) := b3'.cell 0
        have z3 := b3'.frozen 0
        obtain ⟨t1, t2⟩ := b3'.set1 0 (.int .i64 3)
        have S1 := Lib.hid (s1.far (p := ⟨g3, 0, none⟩) h23 (.int .i64 3))
        have T1 := Lib.hid t1
        have HOx := Lib.hid ((ho9.first s2 (by simp; exact l1)).first t2 (by simp; exact hg3))
        have HOy := Lib.hid (show Only [g2, g3] (w8.setCell ⟨g2, 0, none⟩ (.slice none 0 0)) (((w8.setCell ⟨g2, 0, none⟩ (.slice none 0 0)).setCell ⟨g2, 0, none⟩ (.slice none 0 0)).setCell ⟨g3, 0, none⟩ (.int .i64 3)) from (s2.mono (by simp)).trans (t2.mono (by simp)) (Fresh.refl _ _))
        clear s1 s2 t1 t2 b3'
        go_wp2_with fail
        refine leaves_cons (f := 32) (args := #[.pointer (some ⟨g2, 0, none⟩), .pointer (some ⟨g3, 0, none⟩)]) (by simp) (by simp [go_sem]) ?_
        refine (takeIdle ⟨g2, 0, none⟩ ⟨g3, 0, none⟩ _).mono ?_
        rintro e u' w'' ⟨rfl, rfl, rfl⟩
        exact ⟨_, resPE rfl S1.out T1.out rfl rfl, TakC.nil HE.out HOx.out⟩
      · have HE := Lib.hid (show TB p = ((List.range x).map (rowN (bitsIn (mid p) nb) y), 0) by unfold TB; rw [if_pos HC0.out, if_pos HS1.out, if_pos HOKB.out, if_pos (by rw [HTB.out, HX.out, HY.out, hok]), HTB.out, HX.out, HY.out])
        have hne2 : gp ≠ g2 ∧ gp ≠ g3 := by omega
        have hbr2 : ∀ (i g' : Nat), gs[i]? = some g' → g' ≠ g2 ∧ g' ≠ g3 := fun i g' h => by have := (hbr i g' h).2; omega
        have hnew : ∀ (i g' : Nat), gs[i]? = some g' → w.heap.size ≤ g' := fun i g' h => by have := (hbr i g' h).2; omega
        have hnewp : w.heap.size ≤ gp := by omega
        have HPB := Lib.hid hbp
        have HBR := Lib.hid hbr
        have HBR2 := Lib.hid hbr2
        have HNW := Lib.hid hnew
        have HGS := Lib.hid hgs
        clear hok ho7 hbp hbr hbr2 hnew hgs
        have c28 : w8.cell? ⟨g2, 0, none⟩ = some (.slice none 0 0) := b28.cell 0
        have z28 := b28.frozen 0
        obtain ⟨u1, u2⟩ := b28.set1 0 (.slice (some ⟨gp, 0, none⟩) x x)
        have b39 := b38.far (p := ⟨g2, 0, none⟩) (Ne.symm h23) (.slice (some ⟨gp, 0, none⟩) x x)
        have ho9 := ho8.first u2 (by simp; exact l1)
        have cl9 : (w8.setCell ⟨g2, 0, none⟩ (.slice (some ⟨gp, 0, none⟩) x x)).cell? ⟨g2, 0, none⟩ = some (.slice (some ⟨gp, 0, none⟩) x x) := u1.cell 0
        have HU2 := Lib.hid u2
        clear u2
        have c2 : (w8.setCell ⟨g2, 0, none⟩ (.slice (some ⟨gp, 0, none⟩) x x)).cell? ⟨g2, 0, none⟩ = some (.slice (some ⟨gp, 0, none⟩) x x) := u1.cell 0
        have z2 := u1.frozen 0
        obtain ⟨s1, s2⟩ := u1.set1 0 (.slice (some ⟨gp, 0, none⟩) x x)
        have b3' := b39.far (p := ⟨g2, 0, none⟩) (Ne.symm h23) (.slice (some ⟨gp, 0, none⟩) x x)
        have c3 : ((w8.setCell ⟨g2, 0, none⟩ (.slice (some ⟨gp, 0, none⟩) x x)).setCell ⟨g2, 0, none⟩ (.slice (some ⟨gp, 0, none⟩) x x)).cell? ⟨g3, 0, none⟩ = some (.int .i64 0) := b3'.cell 0
        have z3 := b3'.frozen 0
        obtain ⟨t1, t2⟩ := b3'.set1 0 (.int .i64 0)
        have S1 := Lib.hid (s1.far (p := ⟨g3, 0, none⟩) h23 (.int .i64 0))
        have T1 := Lib.hid t1
        have HOx := Lib.hid ((ho9.first s2 (by simp; exact l1)).first t2 (by simp; exact hg3))
        have HOy := Lib.hid (show Only [g2, g3] (w8.setCell ⟨g2, 0, none⟩ (.slice (some ⟨gp, 0, none⟩) x x)) (((w8.setCell ⟨g2, 0, none⟩ (.slice (some ⟨gp, 0, none⟩) x x)).setCell ⟨g2, 0, none⟩ (.slice (some ⟨gp, 0, none⟩) x x)).setCell ⟨g3, 0, none⟩ (.int .i64 0)) from (s2.mono (by simp)).trans (t2.mono (by simp)) (Fresh.refl _ _))
        clear s1 s2 t1 t2 b3'
        go_wp2_with fail
        refine leaves_cons (f := 32) (args := #[.pointer (some ⟨g2, 0, none⟩), .pointer (some ⟨g3, 0, none⟩)]) (by simp) (by simp [go_sem]) ?_
        refine (takeIdle ⟨g2, 0, none⟩ ⟨g3, 0, none⟩ _).mono ?_
        rintro e u' w'' ⟨rfl, rfl, rfl⟩
        refine ⟨_, resPE rfl S1.out T1.out rfl rfl, ?_⟩
        have ht := (HU2.out.mono (G := [g2, g3]) (by simp)).trans HOy.out (Fresh.refl _ _)
        unfold TakC
        rw [HE.out]
        refine ⟨some ⟨gp, 0, none⟩, x, gs.map fun g => ((some ⟨g, 0, none⟩ : Option Addr), y), by simp, pcm_of_hdrs HGS.out (HPB.out.only ht (by simp; omega)) (fun i g' h => (HBR.out i g' h).1.only ht (by have := HBR2.out i g' h; simp; omega)), ⟨?_, ?_⟩, HOx.out⟩
        · intro ad h; injection h with h; subst h; exact hnewp
        · intro h hh ad he
          rw [List.mem_map] at hh
          obtain ⟨g', hg', rfl⟩ := hh
          simp at he
          subst he
          obtain ⟨i, hi⟩ := List.getElem?_of_mem hg'
          exact HNW.out i g' hi
end Go.Proofs.Ytmojlfgfaabegaa
