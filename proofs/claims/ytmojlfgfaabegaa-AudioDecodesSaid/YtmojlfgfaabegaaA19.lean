/- Decode. -/
import Derived.Test.YtmojlfgfaabegaaA18
namespace Go.Proofs.Ytmojlfgfaabegaa
open Go.RowKit bt

def S4 (w : World) (g4 : Nat) (E : Int) (w' : World) : Prop := Blk w' g4 29 #[.int .i64 E] ∧ Only [] w w'
def S30 (w : World) (g2 g3 : Nat) (a b : Value) (w' : World) : Prop := Blk w' g2 28 #[a] ∧ Blk w' g3 41 #[b] ∧ Only [] w w'
theorem st3 {wx : World} {g2 g3 g4 : Nat} {a b c : Value} (h2 : Blk wx g2 28 #[a]) (h3 : Blk wx g3 41 #[b]) (h4 : Blk wx g4 29 #[c]) (a' b' c' : Value) :
    (wx.cell? ⟨g2, 0, none⟩ = some a ∧ wx.frozen? ⟨g2, 0, none⟩ = false) ∧
    ((wx.setCell ⟨g2, 0, none⟩ a').cell? ⟨g3, 0, none⟩ = some b ∧ (wx.setCell ⟨g2, 0, none⟩ a').frozen? ⟨g3, 0, none⟩ = false ∧ Blk (wx.setCell ⟨g2, 0, none⟩ a') g2 28 #[a'] ∧ Blk (wx.setCell ⟨g2, 0, none⟩ a') g3 41 #[b] ∧ Blk (wx.setCell ⟨g2, 0, none⟩ a') g4 29 #[c] ∧ Only [g2] wx (wx.setCell ⟨g2, 0, none⟩ a')) ∧
    (((wx.setCell ⟨g2, 0, none⟩ a').setCell ⟨g3, 0, none⟩ b').cell? ⟨g4, 0, none⟩ = some c ∧ ((wx.setCell ⟨g2, 0, none⟩ a').setCell ⟨g3, 0, none⟩ b').frozen? ⟨g4, 0, none⟩ = false ∧ Blk ((wx.setCell ⟨g2, 0, none⟩ a').setCell ⟨g3, 0, none⟩ b') g2 28 #[a'] ∧ Blk ((wx.setCell ⟨g2, 0, none⟩ a').setCell ⟨g3, 0, none⟩ b') g3 41 #[b'] ∧ Blk ((wx.setCell ⟨g2, 0, none⟩ a').setCell ⟨g3, 0, none⟩ b') g4 29 #[c] ∧ Only [g2, g3] wx ((wx.setCell ⟨g2, 0, none⟩ a').setCell ⟨g3, 0, none⟩ b')) ∧
    Blk (((wx.setCell ⟨g2, 0, none⟩ a').setCell ⟨g3, 0, none⟩ b').setCell ⟨g4, 0, none⟩ c') g2 28 #[a'] ∧ Blk (((wx.setCell ⟨g2, 0, none⟩ a').setCell ⟨g3, 0, none⟩ b').setCell ⟨g4, 0, none⟩ c') g3 41 #[b'] ∧ Blk (((wx.setCell ⟨g2, 0, none⟩ a').setCell ⟨g3, 0, none⟩ b').setCell ⟨g4, 0, none⟩ c') g4 29 #[c'] ∧
      Only [g2, g3, g4] wx (((wx.setCell ⟨g2, 0, none⟩ a').setCell ⟨g3, 0, none⟩ b').setCell ⟨g4, 0, none⟩ c') := by
  have n23 : g2 ≠ g3 := h2.ne_ h3 (by decide)
  have n24 : g2 ≠ g4 := h2.ne_ h4 (by decide)
  have n34 : g3 ≠ g4 := h3.ne_ h4 (by decide)
  obtain ⟨s1, s2⟩ := h2.set1 0 a'
  have h31 := h3.far (p := ⟨g2, 0, none⟩) (Ne.symm n23) a'
  have h41 := h4.far (p := ⟨g2, 0, none⟩) (Ne.symm n24) a'
  obtain ⟨t1, t2⟩ := h31.set1 0 b'
  have h22 := Blk.far s1 (p := ⟨g3, 0, none⟩) n23 b'
  have h42 := h41.far (p := ⟨g3, 0, none⟩) (Ne.symm n34) b'
  obtain ⟨u1, u2⟩ := h42.set1 0 c'
  have o2 : Only [g2, g3] wx ((wx.setCell ⟨g2, 0, none⟩ a').setCell ⟨g3, 0, none⟩ b') := (s2.mono (by simp)).trans (t2.mono (by simp)) (Fresh.refl _ _)
  exact ⟨⟨h2.cell 0, h2.frozen 0⟩, ⟨h31.cell 0, h31.frozen 0, s1, h31, h41, s2⟩, ⟨h42.cell 0, h42.frozen 0, h22, t1, h42, o2⟩, Blk.far h22 (p := ⟨g4, 0, none⟩) n24 c', Blk.far t1 (p := ⟨g4, 0, none⟩) n34 c', u1, (o2.mono (by simp)).trans (u2.mono (by simp)) (Fresh.refl _ _)⟩
theorem zeroI : (Try.prog.info? 41).map (·.zero) = some (some (.slice none 0 0)) := by kernel_rfl
theorem info_int : (Try.prog.info? 3).map (fun i => (i.zero, i.size, i.bytes)) = some (some (.int .i64 0), 1, 8) := by kernel_rfl
section
variable {ops : Array Oper} {rest : List Oper} {o : Oper} {a : Act} {w : World} {Q : Exit → Act → World → Prop}
theorem alI (hgd : o.guard = none) (ho : o.op = .alloc 41) (k : ∀ g w', Blk w' g 41 #[.slice none 0 0] → Only [] w w' → w.heap.size ≤ g → wpList Try.prog ops Q rest (a.put o.dst (.pointer (some ⟨g, 0, none⟩))) w') : wpList Try.prog ops Q (o :: rest) a w :=
  wal _ _ hgd ho zeroI rfl k
end
theorem resDE {fn : Func} (h : fn.results = #[.cell 2 28, .cell 3 41, .cell 4 29]) {tmps : Array Value} {w : World} {g2 g3 g4 n c m d : Nat} {A B : Option Addr} {e : Int} (h2 : Blk w g2 28 #[.slice A n c]) (h3 : Blk w g3 41 #[.slice B m d]) (h4 : Blk w g4 29 #[.int .i64 e])
    (hp : tmps.getD 2 undef = .pointer (some ⟨g2, 0, none⟩)) (hq : tmps.getD 3 undef = .pointer (some ⟨g3, 0, none⟩)) (hr : tmps.getD 4 undef = .pointer (some ⟨g4, 0, none⟩)) : (results fn tmps).run Try.prog w = .ok (.tuple #[.slice A n c, .slice B m d, .int .i64 e]) w := by
  have hp' : tmps[2]?.getD undef = .pointer (some ⟨g2, 0, none⟩) := by simpa using hp
  have hq' : tmps[3]?.getD undef = .pointer (some ⟨g3, 0, none⟩) := by simpa using hq
  have hr' : tmps[4]?.getD undef = .pointer (some ⟨g4, 0, none⟩) := by simpa using hr
  have hc2 : w.cell? ⟨g2, 0, none⟩ = some (.slice A n c) := h2.cell 0
  have hc3 : w.cell? ⟨g3, 0, none⟩ = some (.slice B m d) := h3.cell 0
  have hc4 : w.cell? ⟨g4, 0, none⟩ = some (.int .i64 e) := h4.cell 0
  have l2 : (loadVar 28 ⟨g2, 0, none⟩).run Try.prog w = .ok (.slice A n c) w := by simp [loadVar, hc2, go_sem]
  have l3 : (loadVar 41 ⟨g3, 0, none⟩).run Try.prog w = .ok (.slice B m d) w := by simp [loadVar, hc3, go_sem]
  have l4 : (loadVar 29 ⟨g4, 0, none⟩).run Try.prog w = .ok (.int .i64 e) w := by simp [loadVar, hc4, go_sem]
  simp [results, h, hp', hq', hr', asAddr, l2, l3, l4]
set_option maxHeartbeats 1000000 in
theorem decIdle (p q r : Addr) (w : World) :
    CallsD Try.prog 56 #[.pointer (some p), .pointer (some q), .pointer (some r)] .returning w fun e u' w' => e = .returned (.tuple #[]) ∧ u' = .returning ∧ w' = w := by
  refine callsD_of_wpS Try.func56 rfl fun c₀ cs hu => ?_
  apply wpS_seq
  apply wpS_region
  simp [wpOpsS, go_sem, recoverD, hu, Try.ntmps56, Exit.thenS]
  refine wpS_cond (t := false) (by simp [Act.eval, Array.replicate]) ?_
  simp only [Bool.false_eq_true, if_false]
  refine wpS_of_wp (wp_skip ?_)
  exact ⟨rfl, .returning, congrArg (· :: cs) (same_mode hu), .tuple #[], by simp [results, Try.results56], rfl, rfl, rfl⟩
theorem PcmIs.off {w w' : World} {A : Option Addr} {hs : List (Option Addr × Nat)} {ls : List (List Int)} {F : List Nat} (h : PcmIs w A hs ls) (ho : Only F w w') (hA : ∀ ad, A = some ad → ad.block ∉ F) (hh : ∀ x ∈ hs, ∀ ad, x.1 = some ad → ad.block ∉ F) : PcmIs w' A hs ls :=
  ⟨h.len, h.row.only ho (fun _ ad e => hA ad e), fun i x l h1 h2 => (h.each i x l h1 h2).only ho (fun _ ad e => hh x (List.mem_of_getElem? h1) ad e), h.cap⟩
theorem pcm_of_rows {w : World} {gp : Nat} {gs : List Nat} {R : Nat → List Int} {n ch : Nat} (hg : gs.length = ch) (hb : Blk w gp 39 (hdrs gs n ch).toArray) (hr : ∀ (i g' : Nat), gs[i]? = some g' → Blk w g' 45 (sV (R i)).toArray) (hR : ∀ c, c < ch → (R c).length = n) :
    PcmIs w (some ⟨gp, 0, none⟩) (gs.map fun g => ((some ⟨g, 0, none⟩ : Option Addr), n)) ((List.range ch).map R) := by
  have hrow : rowsV (gs.map fun g => ((some ⟨g, 0, none⟩ : Option Addr), n)) ((List.range ch).map R) = hdrs gs n ch := by
    unfold rowsV hdrs
    apply List.ext_getElem
    · simp [hg]
    · intro i h1 h2
      have h3 : i < gs.length := by simp at h1; omega
      rw [List.getElem_append_left (by simpa using h3)]
      simp [hR i (by omega)]
  have hat : ∀ (i : Nat) (h : Option Addr × Nat) (l : List Int), (gs.map fun g => ((some ⟨g, 0, none⟩ : Option Addr), n))[i]? = some h → ((List.range ch).map R)[i]? = some l → ∃ g', gs[i]? = some g' ∧ h = (some ⟨g', 0, none⟩, n) ∧ l = R i ∧ i < ch := fun i h l h1 h2 => by
    rw [List.getElem?_map] at h1 h2
    cases hgi : gs[i]? with
    | none => rw [hgi] at h1; cases h1
    | some g' =>
      rw [hgi] at h1
      simp at h1
      cases hri : (List.range ch)[i]? with
      | none => rw [hri] at h2; cases h2
      | some j =>
        rw [hri] at h2
        simp at h2
        obtain ⟨h3, h4⟩ := List.getElem?_eq_some_iff.1 hri
        simp at h3 h4
        subst h4
        exact ⟨g', rfl, h1.symm, h2.symm, h3⟩
  refine ⟨by simp [hg], ?_, fun i h l h1 h2 => ?_, fun i h l h1 h2 => ?_⟩
  · rw [hrow]
    exact Reads.of_blk hb _ (by rw [hdrs_len (by omega)]; simp)
  · obtain ⟨g', h3, rfl, rfl, _⟩ := hat i h l h1 h2
    exact Reads.of_blk (hr i g' h3) _ (by simp [sV])
  · obtain ⟨g', h3, rfl, rfl, h4⟩ := hat i h l h1 h2
    rw [hR i h4]
    exact Nat.le_refl _
section
variable {o : Oper} {a : Act} {w : World} {K : Act → World → Prop} {Q : Exit → Act → World → Prop} {X Y : Operand}
theorem op_rest {t e : TypeId} (ht : Try.prog.underlying t = some (.slice e)) (hs : (Try.prog.info? e).map (·.size) = some 1) {A : Option Addr} {n c : Nat} (j : Nat) (h1 : j ≤ n) (ho : o.op = .slice t X (some Y) none none) (hx : a.eval X = .slice A n c) (hy : a.eval Y = .int .i64 (j : Int))
    (k : K (a.put o.dst (.slice (if c = j then A else A.map (·.add (j * 1))) (n - j) (c - j))) w) : o.wp Try.prog a w K Q := by
  unfold Oper.wp execOp
  simp only [ho, Option.map_some, Option.map_none, hx, hy, Sem.run_bind, run_rest ht hs w A n c j h1, Result.andThen_ok]
  exact k
end
theorem sub_lt {p : List Nat} (h : ∀ x ∈ p, x < 256) (S k : Nat) : ∀ x ∈ sub p S k, x < 256 := fun x hx => h x (List.mem_of_mem_drop (List.mem_of_mem_take (List.mem_of_mem_drop hx)))
theorem sub_len (p : List Nat) (S k : Nat) : (sub p S k).length = min ((k + 1) * S) (p.length - 10) - min (k * S) (p.length - 10) := by
  unfold sub
  rw [List.length_drop, List.length_take, List.length_drop]
  omega
theorem prod_in {x : Nat} (h : x ≤ 4947968) : wrap64 (x : Int) = (x : Int) := by unfold wrap64; omega
theorem if_min (x L : Nat) : (if (L : Int) < (x : Int) then (L : Int) else (x : Int)) = ((min x L : Nat) : Int) := by split <;> omega
theorem mn_lo {k S L : Nat} (hb : k * S ≤ 4947968) : (if (L : Int) < wrap64 ((k : Int) * (S : Int)) then (L : Int) else wrap64 ((k : Int) * (S : Int))) = ((min (k * S) L : Nat) : Int) := by
  rw [← Int.natCast_mul, prod_in hb, if_min]
theorem mn_hi {k S L : Nat} (hb : (k + 1) * S ≤ 4947968) : (if (L : Int) < wrap64 (((k : Int) + 1) * (S : Int)) then (L : Int) else wrap64 (((k : Int) + 1) * (S : Int))) = ((min ((k + 1) * S) L : Nat) : Int) := by
  rw [show (k : Int) + 1 = ((k + 1 : Nat) : Int) from rfl, ← Int.natCast_mul, prod_in hb, if_min]
theorem prod_le {k S : Nat} (h1 : k ≤ 32768) (h2 : S ≤ 151) : k * S ≤ 4947968 := Nat.le_trans (Nat.mul_le_mul h1 h2) (by decide)
theorem lo_hi (k S L : Nat) : min (k * S) L ≤ min ((k + 1) * S) L ∧ min ((k + 1) * S) L ≤ L := by
  have : k * S ≤ (k + 1) * S := Nat.mul_le_mul_right _ (by omega)
  generalize k * S = x at *
  generalize (k + 1) * S = y at *
  omega
theorem HD_ok {p : List Nat} (h : (HD p).2 = 0) : 10 ≤ p.length ∧ (1 ≤ (HD p).1.1 ∧ (HD p).1.1 ≤ 4) ∧ (HD p).1.2 ≤ 1048576 := by
  unfold HD at h ⊢
  split
  · rename_i h1; rw [if_pos h1] at h; cases h
  · rename_i h1
    rw [if_neg h1] at h
    split
    · rename_i h2
      rw [if_pos h2] at h
      split
      · exact ⟨by omega, h2.2.1, h2.2.2⟩
      · rename_i h3; rw [if_neg h3] at h; cases h
    · rename_i h2; rw [if_neg h2] at h; cases h
set_option maxRecDepth 100000 in
set_option maxHeartbeats 4000000 in
theorem decode_any (w : World) (P0 : Option Addr) (c : Nat) (p : List Nat) (hr : Reads w P0 1 p.length (bytesV p)) (hc : p.length ≤ c) (hp : ∀ x ∈ p, x < 256) (hl : p.length ≤ 1000000000) :
    Calls Try.prog 28 #[.slice P0 p.length c] w (DecC p w) := by
  have hmf : ∀ (fn : Fn) (first cap : Array Value) (w : World), (Instr.makeFunc fn first cap).run Try.prog w = .ok (.func fn first cap) w := fun _ _ _ _ => rfl
  obtain ⟨i0, hi0, hz0, hz1, hz2⟩ := info_parts info_i16
  obtain ⟨i1, hi1, hy0, hy1, hy2⟩ := info_parts info_s16
  obtain ⟨i2, hi2, hx0, hx1, hx2⟩ := info_parts info_int
  have HRD := Lib.hid hr
  have HPX := Lib.hid hp
  clear hr hp
  go_enter_defers Try.func28, Try.ntmps28
  have tok : True := trivial
  have tok2 : True := trivial
  have tok3 : True := trivial
  go_wp2_with (first | (clear tok; refine alP rfl rfl ?_; rintro g2 w1 b1 o1 l1) | (clear tok2; refine alI rfl rfl ?_; rintro g3 w2 b2 o2 l2) | (clear tok3; refine alE rfl rfl ?_; rintro g4 w3 b3 o3 l3))
  have B2 := (b1.only o2 (by simp)).only o3 (by simp)
  have B3 := b2.only o3 (by simp)
  have ho3 := (o1.then o2).then o3
  have hn2 : w.heap.size ≤ g2 := l1
  have hn3 : w.heap.size ≤ g3 := by have := o1.size; omega
  have hn4 : w.heap.size ≤ g4 := by have := (o1.then o2).size; omega
  clear b1 b2 o1 o2 o3 hmf l1 l2 l3
  refine (takeHeader_any _ P0 c p (HRD.out.then ho3) hc HPX.out hl).mono ?_
  rintro e w4 ⟨rfl, o4⟩
  have b24 := B2.only o4 (by simp)
  have b34 := B3.only o4 (by simp)
  have b44 := b3.only o4 (by simp)
  have ho4 := ho3.then o4
  clear B2 B3 b3 ho3 o4
  by_cases hE : (HD p).2 = 0
  rotate_left
  · have HE := Lib.hid (show DE p = ([], [], (HD p).2) by unfold DE; rw [if_neg hE])
    generalize (HD p).1.1 = ch
    generalize (HD p).1.2 = n
    generalize (HD p).2 = E at HE hE ⊢
    have c4 : w4.cell? ⟨g4, 0, none⟩ = some (.int .i64 0) := b44.cell 0
    have z4 := b44.frozen 0
    obtain ⟨u4, v4⟩ := b44.set1 0 (.int .i64 E)
    have b25 := b24.only v4 (by simp; exact b24.ne_ b44 (by decide))
    have b35 := b34.only v4 (by simp; exact b34.ne_ b44 (by decide))
    have hoE := ho4.first v4 (by simp; exact hn4)
    have cl4 : (w4.setCell ⟨g4, 0, none⟩ (.int .i64 E)).cell? ⟨g4, 0, none⟩ = some (.int .i64 E) := u4.cell 0
    have hE' : (E != 0) = true := by simpa using hE
    clear v4 b24 b34 b44 ho4
    go_wp2_with fail
    clear c4 z4 cl4
    generalize w4.setCell ⟨g4, 0, none⟩ (.int .i64 E) = wE at u4 b25 b35 hoE ⊢
    refine rgnM (S4 w g4 E) [(0, true), (1, false), (2, false), (3, false)] (by kernel_rfl) (by kernel_rfl) ⟨u4.drew, hoE.drew⟩ ?_
    simp only [pickL, nth]
    have b2d := b25.drew
    have b3d := b35.drew
    have b4d := u4.drew
    have hod := hoE.drew
    generalize wE.drew = wd at b2d b3d b4d hod ⊢
    obtain ⟨⟨k1, k2⟩, ⟨k3, k4, _, _, k7, k8⟩, ⟨k9, k10, _, _, k13, k14⟩, k15, k16, k17, k18⟩ := st3 b2d b3d b4d (.slice none 0 0) (.slice none 0 0) (.int .i64 E)
    have HK7 := Lib.hid k7
    have HK13 := Lib.hid k13
    have HK15 := Lib.hid k15
    have HK16 := Lib.hid k16
    have HK17 := Lib.hid k17
    have HK8 := Lib.hid (hod.first k8 (by simp; exact hn2))
    have HK14 := Lib.hid (hod.first k14 (by simp; exact ⟨hn2, hn3⟩))
    have HK18 := Lib.hid (hod.first k18 (by simp; exact ⟨hn2, hn3, hn4⟩))
    clear k7 k8 k13 k14 k15 k16 k17 k18
    refine mW (.int .i64 E) rfl rfl (fun w hC K hK => ?_) rfl ?_
    · have fc : w.cell? ⟨g4, 0, none⟩ = some (.int .i64 E) := hC.1.cell 0
      go_wp2_with fail
      exact hK
    simp only [Act.put, List.setIfInBounds_toArray, List.set_cons_zero, List.set_cons_succ]
    refine mX ?_
    go_wp2_with fail
    refine mS (show S4 w g4 E _ from ⟨HK7.out, HK8.out⟩) ?_
    refine mX ?_
    go_wp2_with fail
    refine mS (show S4 w g4 E _ from ⟨HK13.out, HK14.out⟩) ?_
    refine mX ?_
    go_wp2_with fail
    refine mS (show S4 w g4 E _ from ⟨HK17.out, HK18.out⟩) ?_
    refine mN ?_
    go_wp2_with fail
    refine leaves_cons (f := 56) (args := #[.pointer (some ⟨g2, 0, none⟩), .pointer (some ⟨g3, 0, none⟩), .pointer (some ⟨g4, 0, none⟩)]) (by simp) (by simp [go_sem]) ?_
    refine (decIdle ⟨g2, 0, none⟩ ⟨g3, 0, none⟩ ⟨g4, 0, none⟩ _).mono ?_
    rintro e u' w'' ⟨rfl, rfl, rfl⟩
    exact ⟨_, resDE rfl HK15.out HK16.out HK17.out rfl rfl rfl, DecC.nil HE.out HK18.out⟩
  obtain ⟨h10, hch, hnm⟩ := HD_ok hE
  have HE0 := Lib.hid hE
  have HDE : DE p = if nblk (HD p).1.2 * szN (HD p).1.1 < p.length - 10 then ([], [], 3) else ((List.range (HD p).1.1).map (fun c => rowTo p (HD p).1.1 (HD p).1.2 (szN (HD p).1.1) c (nblk (HD p).1.2)), badTo p (HD p).1.1 (HD p).1.2 (szN (HD p).1.1) (nblk (HD p).1.2), 0) := by unfold DE; rw [if_pos hE]
  rw [hE]
  generalize (HD p).1.1 = ch at hch HDE ⊢
  generalize (HD p).1.2 = n at hnm HDE ⊢
  clear HE0 hE
  have c4 : w4.cell? ⟨g4, 0, none⟩ = some (.int .i64 0) := b44.cell 0
  have z4 := b44.frozen 0
  obtain ⟨u4, v4⟩ := b44.set1 0 (.int .i64 0)
  have b25 := b24.only v4 (by simp; exact b24.ne_ b44 (by decide))
  have b35 := b34.only v4 (by simp; exact b34.ne_ b44 (by decide))
  have ho5 := ho4.first v4 (by simp; exact hn4)
  have cl4 : (w4.setCell ⟨g4, 0, none⟩ (.int .i64 0)).cell? ⟨g4, 0, none⟩ = some (.int .i64 0) := u4.cell 0
  obtain ⟨L, hL⟩ : ∃ L, L = p.length - 10 := ⟨_, rfl⟩
  obtain ⟨c1, hc1⟩ : ∃ c1, c1 = c - 10 := ⟨_, rfl⟩
  obtain ⟨A1, hA1⟩ : ∃ A1 : Option Addr, A1 = (if c = 10 then P0 else P0.map (·.add (10 * 1))) := ⟨_, rfl⟩
  have HRB := Lib.hid (show Reads w A1 1 L (bytesV (p.drop 10)) by
    have := HRD.out.cut (k := 10) (cap := c) (by omega) hc
    rw [hA1, hL]
    simpa [bytesV] using this)
  have HA1 := Lib.hid hA1
  have HL := Lib.hid hL
  have HC1 := Lib.hid hc1
  have hLc : L ≤ c1 := by omega
  have hLb : L ≤ 1000000000 := by omega
  rw [← hL] at HDE
  have HDE' := Lib.hid HDE
  clear v4 b24 b34 b44 ho4 hL hc1 hA1 HDE
  have tok : True := trivial
  go_wp2_with (first | (clear tok; refine arm_rest Try.underlying22 sz_u8 10 (by omega) rfl rfl rfl rfl ?_; rw [← HA1.out, ← HL.out, ← HC1.out]))
  clear c4 z4 cl4
  generalize w4.setCell ⟨g4, 0, none⟩ (.int .i64 0) = w5 at u4 b25 b35 ho5 ⊢
  refine (blockSize_any _ (ch : Int) (by omega)).mono ?_
  rintro e w6 ⟨rfl, rfl⟩
  rw [bsz_nat hch.1 hch.2]
  obtain ⟨S, hS⟩ : ∃ S, S = szN ch := ⟨_, rfl⟩
  rw [show 5 + ch * 292 / 8 = S from hS.symm]
  have hS1 : 41 ≤ S ∧ S ≤ 151 := by rw [hS]; unfold szN; omega
  obtain ⟨NB, hNB⟩ : ∃ NB, NB = nblk n := ⟨_, rfl⟩
  rw [← hS, ← hNB] at HDE'
  have hNB1 : NB = (n + 31) / 32 := hNB
  have hNBl : NB ≤ 32768 := by omega
  have hq3 : ((n : Int) + 31) / 32 = (NB : Int) := by omega
  have HQ := Lib.hid hq3
  have hpb : NB * S ≤ 4947968 := prod_le hNBl hS1.2
  obtain ⟨PS, hPS⟩ : ∃ PS, PS = NB * S := ⟨_, rfl⟩
  have e1 : wrap64 ((NB : Int) * (S : Int)) = (PS : Int) := by rw [← Int.natCast_mul, prod_in hpb, hPS]
  have HQ2 := Lib.hid (show ((n : Int) + 32 - 1) / 32 = (NB : Int) by omega)
  have HPS := Lib.hid hPS
  rw [← hPS] at hpb
  have HSS := Lib.hid hS
  have HNB := Lib.hid hNB
  clear hS hNB hPS hq3 hNB1
  rw [← HPS.out] at HDE'
  by_cases hbig : PS < L
  · have HE := Lib.hid (show DE p = ([], [], 3) by rw [HDE'.out, if_pos hbig])
    have hbig' : (PS : Int) < (L : Int) := Int.ofNat_lt.2 hbig
    obtain ⟨⟨k1, k2⟩, ⟨k3, k4, _, _, _, _⟩, ⟨k9, k10, _, _, _, _⟩, k15, k16, k17, k18⟩ := st3 b25 b35 u4 (.slice none 0 0) (.slice none 0 0) (.int .i64 3)
    have HK15 := Lib.hid k15
    have HK16 := Lib.hid k16
    have HK17 := Lib.hid k17
    have HK18 := Lib.hid (ho5.first k18 (by simp; exact ⟨hn2, hn3, hn4⟩))
    clear k15 k16 k17 k18 hbig
    have tok : True := trivial
    go_wp2_with (clear tok; rw [HQ2.out])
    refine leaves_cons (f := 56) (args := #[.pointer (some ⟨g2, 0, none⟩), .pointer (some ⟨g3, 0, none⟩), .pointer (some ⟨g4, 0, none⟩)]) (by simp) (by simp [go_sem]) ?_
    refine (decIdle ⟨g2, 0, none⟩ ⟨g3, 0, none⟩ ⟨g4, 0, none⟩ _).mono ?_
    rintro e u' w'' ⟨rfl, rfl, rfl⟩
    exact ⟨_, resDE rfl HK15.out HK16.out HK17.out rfl rfl rfl, DecC.nil HE.out HK18.out⟩
  have hbig' : decide ((PS : Int) < (L : Int)) = false := decide_eq_false (fun h => hbig (Int.ofNat_lt.1 h))
  have HE := Lib.hid (show DE p = ((List.range ch).map (fun c => rowTo p ch n S c NB), badTo p ch n S NB, 0) by rw [HDE'.out, if_neg hbig])
  have hbig2 : decide (PS < L) = false := decide_eq_false hbig
  clear hbig HDE'
  have tok : True := trivial
  go_wp2_with (first | (clear tok; rw [HQ2.out]) | (at_make; refine wpList_mk _ rfl _ _ 28 rfl 39 i1 (.slice none 0 0) Try.underlying28 hi1 hy0 hy1 rfl _ _ _ _ ch rfl rfl rfl rfl (by rw [hy2]; omega) (by unfold maxLen; omega) ?_))
  intro w6 hb6 o6 hs6
  clear hbig' hbig2 e1
  obtain ⟨gp, hgp⟩ : ∃ gp, gp = w5.heap.size := ⟨_, rfl⟩
  rw [← hgp] at hb6 ⊢
  have b26 := b25.only o6 (by simp)
  have b36 := b35.only o6 (by simp)
  have b46 := u4.only o6 (by simp)
  have ho6 := ho5.then o6
  have c2 : w6.cell? ⟨g2, 0, none⟩ = some (.slice none 0 0) := b26.cell 0
  have z2 := b26.frozen 0
  obtain ⟨s1, s2⟩ := b26.set1 0 (.slice (some ⟨gp, 0, none⟩) ch ch)
  have HS0 := Lib.hid (show Ds w g2 g3 g4 gp [] n ch (fun _ => List.replicate n 0) [] none 0 0 (w6.setCell ⟨g2, 0, none⟩ (.slice (some ⟨gp, 0, none⟩) ch ch)) from
    ⟨s1, b36.only s2 (by simp; exact b36.ne_ b26 (by decide)), b46.only s2 (by simp; exact b46.ne_ b26 (by decide)), by
      have h1 := Blk.only hb6 s2 (by simp; exact Blk.ne_ hb6 b26 (by decide))
      have h2 : hdrs [] n ch = List.replicate ch (.slice none 0 0) := by simp [hdrs]
      rw [h2]; exact h1, Nat.zero_le _, fun c g' hg => (by simp at hg), fun i j g' hg => (by simp at hg), World.ownsRow_nil _ _ _ _, ⟨hn2, hn3, hn4, by have := ho5.size; omega, by simp, by simp [rowFp, Value.ownBlock]⟩, ho6.first s2 (by simp; exact hn2)⟩)
  have cl2 : (w6.setCell ⟨g2, 0, none⟩ (.slice (some ⟨gp, 0, none⟩) ch ch)).cell? ⟨g2, 0, none⟩ = some (.slice (some ⟨gp, 0, none⟩) ch ch) := HS0.out.b2.cell 0
  clear s1 s2 b26 b36 b46 ho6 hb6 o6 hs6 b25 b35 u4 ho5 hgp
  go_wp2_with fail
  clear c2 z2 cl2
  generalize w6.setCell ⟨g2, 0, none⟩ (.slice (some ⟨gp, 0, none⟩) ch ch) = w7 at HS0 ⊢
  go_loopw [44] (fun cv wr => ∃ j : Nat, j ≤ ch ∧ cv = .int .i64 (j : Int) ∧ ∃ gs, Hid (gs.length = j) ∧ Hid (Ds w g2 g3 g4 gp gs n ch (fun _ => List.replicate n 0) [] none 0 0 wr)) (fun cv _ => ch - (intOf cv).toNat)
  case atStart => exact ⟨0, Nat.zero_le _, rfl, [], Lib.hid rfl, HS0⟩
  case round =>
    obtain ⟨j, hj, rfl, gs, HG, HS⟩ := hrel
    by_cases hjc : j < ch
    · have hji : (j : Int) < (ch : Int) := by omega
      have ngp : gp ≠ g2 := HS.out.hp.ne_ HS.out.b2 (by decide)
      have f20 : ∀ w', Only [gp] wr w' → w'.cell? ⟨g2, 0, none⟩ = some (.slice (some ⟨gp, 0, none⟩) ch ch) := fun w' h => (HS.out.b2.only h (by simp; exact Ne.symm ngp)).cell 0
      go_wp2_with fail
      refine rgnM (Only [gp] wr) [(0, true), (1, true), (2, true), (3, false), (4, false), (5, false)] (by kernel_rfl) (by kernel_rfl) (Only.refl _ _).drew ?_
      simp only [pickL, nth]
      refine mW (.slice (some ⟨gp, 0, none⟩) ch ch) rfl rfl (fun w hC K hK => ?_) rfl ?_
      · have fc := f20 w hC
        go_wp2_with fail
        exact hK
      simp only [Act.put, List.setIfInBounds_toArray, List.set_cons_zero, List.set_cons_succ]
      refine mW (.int .i64 (j : Int)) rfl rfl (fun w hC K hK => ?_) rfl ?_
      · go_wp2_with fail
        exact hK
      simp only [Act.put, List.setIfInBounds_toArray, List.set_cons_zero, List.set_cons_succ]
      refine mW (.int .i64 (n : Int)) rfl rfl (fun w hC K hK => ?_) rfl ?_
      · go_wp2_with fail
        exact hK
      simp only [Act.put, List.setIfInBounds_toArray, List.set_cons_zero, List.set_cons_succ]
      have HSd := Lib.hid (HS.out.then (Only.refl [] wr).drew)
      have hod : Only [gp] wr wr.drew := (Only.refl _ _).drew
      generalize wr.drew = wd at HSd hod ⊢
      refine mX ?_
      go_wp2_with (at_make; refine wpList_mk _ rfl _ _ 39 rfl 45 i0 (.int .i16 0) Try.underlying39 hi0 hz0 hz1 rfl _ _ _ _ n rfl rfl rfl rfl (by rw [hz2]; omega) (by unfold maxLen; omega) ?_)
      intro w8 hb8 o8 hs8
      have hod8 := hod.then o8
      obtain ⟨k1, k2, k3⟩ := HSd.out.more (gk := wd.heap.size) (l := List.replicate n 0) (by have := HG.out; omega) o8 (Nat.le_refl _) (by rw [show sV (List.replicate n 0) = List.replicate n (.int .i16 0) by simp [sV]]; exact hb8) rfl
      rw [HG.out] at k1 k2 k3
      have HS8 := Lib.hid k3
      have hod9 : Only [gp] wr (w8.setCell ⟨gp, j, none⟩ (.slice (some ⟨wd.heap.size, 0, none⟩) n n)) := hod8.setCell (.inl (by simp)) _
      generalize wd.heap.size = gk at HS8 k3 hod9 ⊢
      refine mS hod8 ?_
      refine mX ?_
      go_wp2_with fail
      refine mS hod8 ?_
      clear k3 hb8 o8 hs8 HSd hod f20
      refine mX ?_
      go_wp2_with fail
      refine mS hod9 ?_
      refine mN ?_
      clear k1 k2 hod8 hod9
      generalize w8.setCell ⟨gp, j, none⟩ (.slice (some ⟨gk, 0, none⟩) n n) = w9 at HS8 ⊢
      have HGn := Lib.hid (show (gs ++ [gk]).length = j + 1 by rw [List.length_append, HG.out]; rfl)
      go_wp2_with fail
      go_roundw
      case rel => exact ⟨j + 1, by omega, by go_num, gs ++ [gk], HGn, HS8⟩
      case measure => simp [intOf]; omega
    · have hjd : decide ((j : Int) < (ch : Int)) = false := decide_eq_false (by omega)
      have hjd2 : (ch : Int) ≤ (j : Int) := by omega
      have HGL := Lib.hid (show gs.length = ch by rw [HG.out]; omega)
      have HS1 := Lib.hid (HS.out.congr (R' := fun c => full p ch n S c 0) (fun c _ => (full_zero p ch n S c).symm))
      clear HS HG
      go_wp2_with fail
      clear hjd hjd2
      go_loopw [54] (fun kv wr => ∃ k : Nat, k ≤ NB ∧ kv = .int .i64 (k : Int) ∧ ∃ B nb cb, Hid (nb = (badTo p ch n S k).length) ∧ nb ≤ k ∧ Hid (Ds w g2 g3 g4 gp gs n ch (fun c => full p ch n S c k) (badTo p ch n S k) B nb cb wr)) (fun kv _ => NB - (intOf kv).toNat)
      case atStart => exact ⟨0, Nat.zero_le _, rfl, none, 0, 0, Lib.hid rfl, Nat.le_refl _, HS1⟩
      case round =>
        obtain ⟨k, hk, rfl, B, nb, cb, HNb, hnbk, HS⟩ := hrel
        by_cases hkN : k < NB
        · have hki : (k : Int) < (NB : Int) := by omega
          have h32 : 32 * k < n := by have := HNB.out; unfold nblk at this; omega
          have H32 := Lib.hid h32
          obtain ⟨W, hW⟩ : ∃ W, W = want n k := ⟨_, rfl⟩
          have HWW := Lib.hid hW
          have hW2 : W = min 32 (n - 32 * k) := hW
          have HMa := Lib.hid (show (if (n : Int) - (k : Int) * 32 < 32 then (n : Int) - (k : Int) * 32 else 32) = (W : Int) by split <;> omega)
          have hWb : 1 ≤ W ∧ W ≤ 32 := by omega
          have hsubl := sub_len p S k
          rw [← HL.out] at hsubl
          obtain ⟨lo, hlo⟩ : ∃ lo, lo = min (k * S) L := ⟨_, rfl⟩
          obtain ⟨hi, hhi⟩ : ∃ hi, hi = min ((k + 1) * S) L := ⟨_, rfl⟩
          have HMb := Lib.hid (show (if (L : Int) < wrap64 ((k : Int) * (S : Int)) then (L : Int) else wrap64 ((k : Int) * (S : Int))) = (lo : Int) by rw [hlo]; exact mn_lo (prod_le (by omega) hS1.2))
          have HMc := Lib.hid (show (if (L : Int) < wrap64 (((k : Int) + 1) * (S : Int)) then (L : Int) else wrap64 (((k : Int) + 1) * (S : Int))) = (hi : Int) by rw [hhi]; exact mn_hi (prod_le (by omega) hS1.2))
          have hlh : lo ≤ hi ∧ hi ≤ L := by rw [hlo, hhi]; exact lo_hi k S L
          rw [← hlo, ← hhi] at hsubl
          obtain ⟨A2, hA2⟩ : ∃ A2 : Option Addr, A2 = (if c1 = lo then A1 else A1.map (·.add (lo * 1))) := ⟨_, rfl⟩
          obtain ⟨C2, hC2⟩ : ∃ C2, C2 = c1 - lo := ⟨_, rfl⟩
          have HRS := Lib.hid (show Reads w A2 1 (sub p S k).length (bytesV (sub p S k)) by
            have := HRB.out.sub (j := lo) (m := hi) (c := c1) hlh.1 hlh.2 hLc
            rw [bytesV_sub] at this
            rw [hA2, hsubl]
            unfold sub
            rw [← HL.out, ← hlo, ← hhi]
            exact this)
          clear hlo hhi
          have HA2 := Lib.hid hA2
          have HC2 := Lib.hid hC2
          have HL2 := Lib.hid (show hi - lo = (sub p S k).length from hsubl.symm)
          have hC2b : (sub p S k).length ≤ C2 := by omega
          have hql : (sub p S k).length ≤ 1000000000 := by omega
          have HQX := Lib.hid (sub_lt HPX.out S k)
          have HOK := Lib.hid (okB_true (p := p) (ch := ch) (n := n) (S := S) (k := k))
          have HGET := Lib.hid (fun c => okB_get (p := p) (ch := ch) (n := n) (S := S) (k := k) (c := c))
          have HTL := Lib.hid (TB_le (sub p S k)).2
          clear hW hW2 hsubl hA2 hC2 h32
          generalize sub p S k = q at HRS HL2 hC2b hql HQX HOK HGET HTL
          obtain ⟨wo, hwo⟩ : ∃ wo : World, wo = wr := ⟨_, rfl⟩
          subst hwo
          have tokA : True := trivial
          have tokB : True := trivial
          have tokC : True := trivial
          have tokD : True := trivial
          go_wp2_with (first | (clear tokA; refine arm_min 32 ((n : Int) - (k : Int) * 32) (W : Int) HMa.out rfl rfl rfl rfl ?_) | (clear tokB; refine arm_min (wrap64 ((k : Int) * (S : Int))) (L : Int) (lo : Int) HMb.out rfl rfl rfl rfl ?_) | (clear tokC; refine arm_min (wrap64 (((k : Int) + 1) * (S : Int))) (L : Int) (hi : Int) HMc.out rfl rfl rfl rfl ?_) | (clear tokD; refine arm_cut Try.underlying22 sz_u8 lo hi (by omega) (by omega) rfl rfl rfl rfl rfl ?_; rw [← HA2.out, HL2.out, ← HC2.out]))
          refine (takeBlock_any _ A2 C2 q (HRS.out.then HS.out.only) hC2b HQX.out hql).mono ?_
          rintro e w8 ⟨A8, c8, hs8, rfl, p8, n8, o8⟩
          have HS8 := Lib.hid (HS.out.then o8)
          have HP8 := Lib.hid p8
          have HN8 := Lib.hid n8
          clear p8 n8 o8
          obtain ⟨r, hr⟩ : ∃ r, r = (TB q).2 := ⟨_, rfl⟩
          obtain ⟨ls, hls⟩ : ∃ ls, ls = (TB q).1 := ⟨_, rfl⟩
          rw [← hr, ← hls] at HOK
          rw [← hls] at HGET HTL HP8
          rw [← hr, ← hls]
          clear hr hls
          by_cases hr0 : r = 0
          rotate_left
          · have HBAD := Lib.hid (show ¬ okB p ch n S k = true from fun h => hr0 (HOK.out.1 h).1)
            have hr0' : (r != 0) = true := by simpa using hr0
            clear hr0
            have c3 : w8.cell? ⟨g3, 0, none⟩ = some (.slice B nb cb) := HS8.out.b3.cell 0
            have HBT := Lib.hid (show badTo p ch n S (k + 1) = badTo p ch n S k ++ [(k : Int)] by simp only [badTo]; rw [if_neg HBAD.out])
            have HFB := Lib.hid (show ∀ c, c < ch → full p ch n S c k = full p ch n S c (k + 1) from fun c _ => (full_bad HBAD.out H32.out).symm)
            go_wp2_with (at_builtin; refine wpList_app _ rfl _ _ 41 rfl 3 i2 (.int .i64 0) 1 8 Try.underlying41 hi2 hx0 hx1 hx2 rfl (by decide) B nb cb (iV (badTo p ch n S k)) rfl (HS8.out.own.alloc _) _ 1 1 [.int .i64 (k : Int)] rfl (Reads.one _ _ _) (by simp [Value.oneCell']) (by unfold maxLen; omega) (by omega) ?_)
            intro B9 c9 w9 own9 o9 f9
            have o89 : Only (rowFp (.slice B nb cb)) w8 w9 := ((Only.refl _ _).alloc _).trans o9 (Fresh.refl _ _)
            have f89 : Fresh w8 (rowFp (.slice B nb cb)) (rowFp (.slice B9 (nb + 1) c9)) := fun x hx => by
              rcases f9 x hx with h | h
              · exact .inl h
              · exact .inr (by simp at h; omega)
            have own9' : w9.ownsRow 0 3 1 (.slice B9 (nb + 1) c9) (nb + 1) (iV (badTo p ch n S (k + 1))) := by rw [HBT.out, show iV (badTo p ch n S k ++ [(k : Int)]) = iV (badTo p ch n S k) ++ [.int .i64 (k : Int)] by simp [iV]]; exact own9
            obtain ⟨k1, k2, k3⟩ := HS8.out.app own9' o89 f89
            have HS9 := Lib.hid (k3.congr (R' := fun c => full p ch n S c (k + 1)) HFB.out)
            have HNn := Lib.hid (show nb + 1 = (badTo p ch n S (k + 1)).length by rw [HBT.out, List.length_append, HNb.out]; rfl)
            clear own9 own9' o9 o89 f9 f89 k3 c3
            go_wp2_with fail
            clear k1 k2
            go_roundw
            case rel => exact ⟨k + 1, by omega, by go_num, B9, nb + 1, c9, HNn, by omega, HS9⟩
            case measure => simp [intOf]; omega
          subst hr0
          by_cases hlen : ls.length = ch
          rotate_left
          · have HBAD := Lib.hid (show ¬ okB p ch n S k = true from fun h => hlen (HOK.out.1 h).2.1)
            have hlen' : ((ls.length : Int) != (ch : Int)) = true := by simp; omega
            clear hlen
            have c3 : w8.cell? ⟨g3, 0, none⟩ = some (.slice B nb cb) := HS8.out.b3.cell 0
            have HBT := Lib.hid (show badTo p ch n S (k + 1) = badTo p ch n S k ++ [(k : Int)] by simp only [badTo]; rw [if_neg HBAD.out])
            have HFB := Lib.hid (show ∀ c, c < ch → full p ch n S c k = full p ch n S c (k + 1) from fun c _ => (full_bad HBAD.out H32.out).symm)
            go_wp2_with (at_builtin; refine wpList_app _ rfl _ _ 41 rfl 3 i2 (.int .i64 0) 1 8 Try.underlying41 hi2 hx0 hx1 hx2 rfl (by decide) B nb cb (iV (badTo p ch n S k)) rfl (HS8.out.own.alloc _) _ 1 1 [.int .i64 (k : Int)] rfl (Reads.one _ _ _) (by simp [Value.oneCell']) (by unfold maxLen; omega) (by omega) ?_)
            intro B9 c9 w9 own9 o9 f9
            have o89 : Only (rowFp (.slice B nb cb)) w8 w9 := ((Only.refl _ _).alloc _).trans o9 (Fresh.refl _ _)
            have f89 : Fresh w8 (rowFp (.slice B nb cb)) (rowFp (.slice B9 (nb + 1) c9)) := fun x hx => by
              rcases f9 x hx with h | h
              · exact .inl h
              · exact .inr (by simp at h; omega)
            have own9' : w9.ownsRow 0 3 1 (.slice B9 (nb + 1) c9) (nb + 1) (iV (badTo p ch n S (k + 1))) := by rw [HBT.out, show iV (badTo p ch n S k ++ [(k : Int)]) = iV (badTo p ch n S k) ++ [.int .i64 (k : Int)] by simp [iV]]; exact own9
            obtain ⟨k1, k2, k3⟩ := HS8.out.app own9' o89 f89
            have HS9 := Lib.hid (k3.congr (R' := fun c => full p ch n S c (k + 1)) HFB.out)
            have HNn := Lib.hid (show nb + 1 = (badTo p ch n S (k + 1)).length by rw [HBT.out, List.length_append, HNb.out]; rfl)
            clear own9 own9' o9 o89 f9 f89 k3 c3
            go_wp2_with fail
            clear k1 k2
            go_roundw
            case rel => exact ⟨k + 1, by omega, by go_num, B9, nb + 1, c9, HNn, by omega, HS9⟩
            case measure => simp [intOf]; omega
          obtain ⟨l0, hl0⟩ : ∃ l0, ls[0]? = some l0 := ⟨_, List.getElem?_eq_getElem (by omega)⟩
          have hhd : ls.headD [] = l0 := head_get hl0
          obtain ⟨b8, off8, B0, cB0, rfl, cl0, _, _⟩ := HP8.out.at_ hl0
          rw [Nat.add_zero] at cl0
          have hz : (0 : Int) < (ls.length : Int) := by omega
          have hlb : l0.length ≤ 32 := HTL.out l0 (List.mem_of_getElem? hl0)
          have HHD := Lib.hid hhd
          have HLEN := Lib.hid hlen
          clear hl0 hhd
          rw [hlen]
          rw [hlen] at hz
          clear hlen
          by_cases hw : l0.length = W
          rotate_left
          · have HBAD := Lib.hid (show ¬ okB p ch n S k = true from fun h => hw (by rw [HWW.out, ← (HOK.out.1 h).2.2, HHD.out]))
            have hw' : ((l0.length : Int) != (W : Int)) = true := by simp; omega
            clear hw
            have c3 : w8.cell? ⟨g3, 0, none⟩ = some (.slice B nb cb) := HS8.out.b3.cell 0
            have HBT := Lib.hid (show badTo p ch n S (k + 1) = badTo p ch n S k ++ [(k : Int)] by simp only [badTo]; rw [if_neg HBAD.out])
            have HFB := Lib.hid (show ∀ c, c < ch → full p ch n S c k = full p ch n S c (k + 1) from fun c _ => (full_bad HBAD.out H32.out).symm)
            go_wp2_with (at_builtin; refine wpList_app _ rfl _ _ 41 rfl 3 i2 (.int .i64 0) 1 8 Try.underlying41 hi2 hx0 hx1 hx2 rfl (by decide) B nb cb (iV (badTo p ch n S k)) rfl (HS8.out.own.alloc _) _ 1 1 [.int .i64 (k : Int)] rfl (Reads.one _ _ _) (by simp [Value.oneCell']) (by unfold maxLen; omega) (by omega) ?_)
            intro B9 c9 w9 own9 o9 f9
            have o89 : Only (rowFp (.slice B nb cb)) w8 w9 := ((Only.refl _ _).alloc _).trans o9 (Fresh.refl _ _)
            have f89 : Fresh w8 (rowFp (.slice B nb cb)) (rowFp (.slice B9 (nb + 1) c9)) := fun x hx => by
              rcases f9 x hx with h | h
              · exact .inl h
              · exact .inr (by simp at h; omega)
            have own9' : w9.ownsRow 0 3 1 (.slice B9 (nb + 1) c9) (nb + 1) (iV (badTo p ch n S (k + 1))) := by rw [HBT.out, show iV (badTo p ch n S k ++ [(k : Int)]) = iV (badTo p ch n S k) ++ [.int .i64 (k : Int)] by simp [iV]]; exact own9
            obtain ⟨k1, k2, k3⟩ := HS8.out.app own9' o89 f89
            have HS9 := Lib.hid (k3.congr (R' := fun c => full p ch n S c (k + 1)) HFB.out)
            have HNn := Lib.hid (show nb + 1 = (badTo p ch n S (k + 1)).length by rw [HBT.out, List.length_append, HNb.out]; rfl)
            clear own9 own9' o9 o89 f9 f89 k3 c3
            go_wp2_with fail
            clear k1 k2
            go_roundw
            case rel => exact ⟨k + 1, by omega, by go_num, B9, nb + 1, c9, HNn, by omega, HS9⟩
            case measure => simp [intOf]; omega
          have HOKT := Lib.hid (show okB p ch n S k = true from HOK.out.2 ⟨rfl, HLEN.out, by rw [HHD.out, hw, HWW.out]⟩)
          have hw' : ((l0.length : Int) != (W : Int)) = false := by simp; omega
          have HBT := Lib.hid (show badTo p ch n S (k + 1) = badTo p ch n S k by simp only [badTo]; rw [if_pos HOKT.out])
          have c2 : w8.cell? ⟨g2, 0, none⟩ = some (.slice (some ⟨gp, 0, none⟩) ch ch) := HS8.out.b2.cell 0
          have HST := Lib.hid (HS8.out.congr (R' := fun i => if i < 0 then full p ch n S i (k + 1) else full p ch n S i k) (fun c _ => by simp))
          obtain ⟨F, hF⟩ : ∃ F, F = 32 * k := ⟨_, rfl⟩
          have hFn : F < n := by have := H32.out; omega
          have HFI := Lib.hid (show (k : Int) * 32 = (F : Int) by omega)
          have HFK := Lib.hid hF
          clear hw hF HS8
          go_wp2_with fail
          clear c2 hw' cl0 hz
          go_loopw [104] (fun cv wr => ∃ j : Nat, j ≤ ch ∧ cv = .int .i64 (j : Int) ∧ Hid (Ds w g2 g3 g4 gp gs n ch (fun i => if i < j then full p ch n S i (k + 1) else full p ch n S i k) (badTo p ch n S k) B nb cb wr) ∧ Hid (PcmIs wr (some ⟨b8, off8, none⟩) hs8 ls)) (fun cv _ => ch - (intOf cv).toNat)
          case atStart => exact ⟨0, Nat.zero_le _, rfl, HST, HP8⟩
          case round =>
            obtain ⟨j, hj, rfl, HSj, HPj⟩ := hrel
            by_cases hjc : j < ch
            · have hji : (j : Int) < (ch : Int) := by omega
              obtain ⟨g', hg'⟩ : ∃ g', gs[j]? = some g' := ⟨_, List.getElem?_eq_getElem (by have := HGL.out; omega)⟩
              obtain ⟨hpc, hpl⟩ := HGET.out j HOKT.out hjc
              obtain ⟨b', off', Bc, cc, hA, cl, rl, hhs⟩ := HPj.out.at_ hpc
              injection hA with hA
              injection hA with hA1 hA2
              subst hA1 hA2
              rw [hpl, ← HWW.out] at cl rl
              have hgo : g' < wo.heap.size := (HS.out.row j g' hg').lt
              have nb8 : wo.heap.size ≤ b8 := HN8.out.1 _ rfl
              have nbc : ∀ ad, Bc = some ad → wo.heap.size ≤ ad.block := HN8.out.2 (Bc, cc) (List.mem_of_getElem? hhs)
              have ng2 : g2 ≠ g' := HSj.out.b2.ne_ (HSj.out.row j g' hg') (by decide)
              have ngp : gp ≠ g' := HSj.out.hp.ne_ (HSj.out.row j g' hg') (by decide)
              have f2 : ∀ w', Only [g'] wr w' → w'.cell? ⟨g2, 0, none⟩ = some (.slice (some ⟨gp, 0, none⟩) ch ch) := fun w' h => (HSj.out.b2.only h (by simp; exact ng2)).cell 0
              have f3 : ∀ w', Only [g'] wr w' → w'.cell? ⟨gp, j, none⟩ = some (.slice (some ⟨g', 0, none⟩) n n) := fun w' h => by
                rw [(HSj.out.hp.only h (by simp; exact ngp)).cell j]
                simpa using hdrs_get hg'
              have f8 : ∀ w', Only [g'] wr w' → w'.cell? ⟨b8, off8 + j, none⟩ = some (.slice Bc W cc) := fun w' h => (h.cell (World.block_lt_of_cell? _ _ cl) (by simp; omega)).trans cl
              have RL := Lib.hid rl
              have HG' := Lib.hid hg'
              have HNBC := Lib.hid nbc
              have HADD := Lib.hid (show (if n = F then (some ⟨g', 0, none⟩ : Option Addr) else (some ⟨g', 0, none⟩ : Option Addr).map (·.add (F * 1))) = some ⟨g', F, none⟩ by rw [if_neg (by omega)]; simp [add_plain])
              clear hpc hpl cl rl hhs hg' nbc
              go_wp2_with fail
              refine rgnM (Only [g'] wr) [(0, true), (1, true), (2, true), (3, true), (4, true), (5, true), (6, true), (7, true), (8, true), (9, true), (10, false)] (by kernel_rfl) (by kernel_rfl) (Only.refl _ _).drew ?_
              simp only [pickL, nth]
              refine mW (.slice (some ⟨gp, 0, none⟩) ch ch) rfl rfl (fun w hC K hK => ?_) rfl ?_
              · have fc := f2 w hC
                go_wp2_with fail
                exact hK
              simp only [Act.put, List.setIfInBounds_toArray, List.set_cons_zero, List.set_cons_succ]
              refine mW (.int .i64 (j : Int)) rfl rfl (fun w hC K hK => ?_) rfl ?_
              · go_wp2_with fail
                exact hK
              simp only [Act.put, List.setIfInBounds_toArray, List.set_cons_zero, List.set_cons_succ]
              refine mW (.pointer (some ⟨gp, j, none⟩)) rfl rfl (fun w hC K hK => ?_) rfl ?_
              · go_wp2_with fail
                exact hK
              simp only [Act.put, List.setIfInBounds_toArray, List.set_cons_zero, List.set_cons_succ]
              refine mW (.slice (some ⟨g', 0, none⟩) n n) rfl rfl (fun w hC K hK => ?_) rfl ?_
              · have fc := f3 w hC
                go_wp2_with fail
                exact hK
              simp only [Act.put, List.setIfInBounds_toArray, List.set_cons_zero, List.set_cons_succ]
              refine mW (.int .i64 ((k : Int) * 32)) rfl rfl (fun w hC K hK => ?_) rfl ?_
              · go_wp2_with fail
                exact hK
              simp only [Act.put, List.setIfInBounds_toArray, List.set_cons_zero, List.set_cons_succ]
              refine mW (.slice (some ⟨g', F, none⟩) (n - F) (n - F)) rfl rfl (fun w hC K hK => ?_) rfl ?_
              · refine op_rest Try.underlying39 sz_i16 F (by omega) rfl rfl (congrArg (Value.int .i64) HFI.out) ?_
                rw [HADD.out]
                exact hK
              simp only [Act.put, List.setIfInBounds_toArray, List.set_cons_zero, List.set_cons_succ]
              refine mW (.slice (some ⟨b8, off8, none⟩) ch c8) rfl rfl (fun w hC K hK => ?_) rfl ?_
              · go_wp2_with fail
                exact hK
              simp only [Act.put, List.setIfInBounds_toArray, List.set_cons_zero, List.set_cons_succ]
              refine mW (.int .i64 (j : Int)) rfl rfl (fun w hC K hK => ?_) rfl ?_
              · go_wp2_with fail
                exact hK
              simp only [Act.put, List.setIfInBounds_toArray, List.set_cons_zero, List.set_cons_succ]
              refine mW (.pointer (some ⟨b8, off8 + j, none⟩)) rfl rfl (fun w hC K hK => ?_) rfl ?_
              · go_wp2_with fail
                exact hK
              simp only [Act.put, List.setIfInBounds_toArray, List.set_cons_zero, List.set_cons_succ]
              refine mW (.slice Bc W cc) rfl rfl (fun w hC K hK => ?_) rfl ?_
              · have fc := f8 w hC
                go_wp2_with fail
                exact hK
              simp only [Act.put, List.setIfInBounds_toArray, List.set_cons_zero, List.set_cons_succ]
              have HSd := Lib.hid (HSj.out.then (Only.refl [] wr).drew)
              have HPd := Lib.hid (HPj.out.then (Only.refl [] wr).drew)
              have RLd := Lib.hid (RL.out.then (Only.refl [] wr).drew)
              have hod : Only [g'] wr wr.drew := (Only.refl _ _).drew
              generalize wr.drew = wd at HSd HPd RLd hod ⊢
              have HBd := Lib.hid (show Blk wd g' 45 (sV (full p ch n S j k)).toArray by have := HSd.out.row j g' HG'.out; simpa using this)
              have hfl := full_len (p := p) (S := S) (k := k) hjc (n := n) (by have := H32.out; omega)
              have HFO := Lib.hid (full_ok (p := p) (n := n) (S := S) (k := k) hjc H32.out)
              rw [← HFK.out] at HFO
              clear f2 f3 f8 HSj HPj RL
              refine mX ?_
              go_wp2_with (with_reducible refine wpList_cp _ rfl _ _ 39 39 rfl 45 Try.underlying39 sz_i16 g' F (n - F) (n - F) Bc W cc rfl rfl (sV (full p ch n S j k)) 45 HBd.out (sV (piece p ch n S k j)) RLd.out ?cfit ?cone ?_)
              case cfit => rw [show (sV (full p ch n S j k)).length = n by simp [sV, hfl]]; omega
              case cone => intro v hv; simp [sV] at hv; obtain ⟨_, _, rfl⟩ := hv; rfl
              intro w9 hb9 o9
              rw [HFO.out] at hb9
              have HS9 := Lib.hid ((HSd.out.turn HG'.out o9 hb9).congr (R' := fun i => if i < j + 1 then full p ch n S i (k + 1) else full p ch n S i k) (fun i _ => by
                by_cases h1 : i = j
                · subst h1; simp
                · by_cases h2 : i < j
                  · rw [if_neg h1, if_pos h2, if_pos (by omega)]
                  · rw [if_neg h1, if_neg h2, if_neg (by omega)]))
              have HP9 := Lib.hid (HPd.out.off o9 (fun ad he => by injection he with he; subst he; simp; omega) (fun x hx ad he => by have := HN8.out.2 x hx ad he; simp; omega))
              refine mS (hod.trans o9 (Fresh.refl _ _)) ?_
              refine mN ?_
              clear hb9 o9 HSd HPd RLd hod HBd HFO
              go_wp2_with fail
              go_roundw
              case rel => exact ⟨j + 1, by omega, by go_num, HS9, HP9⟩
              case measure => simp [intOf]; omega
            · have hjd : decide ((j : Int) < (ch : Int)) = false := decide_eq_false (by omega)
              have hjd2 : (ch : Int) ≤ (j : Int) := by omega
              have HSn := Lib.hid (show Ds w g2 g3 g4 gp gs n ch (fun c => full p ch n S c (k + 1)) (badTo p ch n S (k + 1)) B nb cb wr by
                rw [HBT.out]
                exact HSj.out.congr (fun i hi => by rw [if_pos (by omega)]))
              have HNn := Lib.hid (show nb = (badTo p ch n S (k + 1)).length by rw [HBT.out]; exact HNb.out)
              clear HSj
              go_wp2_with fail
              go_roundw
              case rel => exact ⟨k + 1, by omega, by go_num, B, nb, cb, HNn, by omega, HSn⟩
              case measure => simp [intOf]; omega
        · have hkd : decide ((k : Int) < (NB : Int)) = false := decide_eq_false (by omega)
          have hkd2 : (NB : Int) ≤ (k : Int) := by omega
          have hkd3 : decide (k < NB) = false := decide_eq_false hkN
          have hke : k = NB := by omega
          have HKE := Lib.hid hke
          clear hke hkN
          go_wp2_with fail
          clear hkd hkd2 hkd3
          refine rgnM (S30 w g2 g3 (.slice (some ⟨gp, 0, none⟩) ch ch) (.slice B nb cb)) [(0, true), (1, true), (2, false), (3, false), (4, false)] (by kernel_rfl) (by kernel_rfl) ⟨HS.out.b2.drew, HS.out.b3.drew, HS.out.only.drew⟩ ?_
          simp only [pickL, nth]
          have HSd := Lib.hid (HS.out.then (Only.refl [] wr).drew)
          generalize wr.drew = wd at HSd ⊢
          obtain ⟨⟨k1, k2⟩, ⟨k3, k4, k5, k6, _, k8⟩, ⟨k9, k10, k11, k12, _, k14⟩, k15, k16, k17, k18⟩ := st3 HSd.out.b2 HSd.out.b3 HSd.out.b4 (.slice (some ⟨gp, 0, none⟩) ch ch) (.slice B nb cb) (.int .i64 0)
          have hnw := HS.out.new
          have HK5 := Lib.hid k5
          have HK6 := Lib.hid k6
          have HK11 := Lib.hid k11
          have HK12 := Lib.hid k12
          have HK15 := Lib.hid k15
          have HK16 := Lib.hid k16
          have HK17 := Lib.hid k17
          have HK8 := Lib.hid (HSd.out.only.first k8 (by simp; exact hnw.1))
          have HK14 := Lib.hid (HSd.out.only.first k14 (by simp; exact ⟨hnw.1, hnw.2.1⟩))
          have HK18 := Lib.hid (HSd.out.only.first k18 (by simp; exact ⟨hnw.1, hnw.2.1, hnw.2.2.1⟩))
          have HKO := Lib.hid k18
          clear k5 k6 k11 k12 k8 k14 k15 k16 k17 k18 hnw
          refine mW (.slice (some ⟨gp, 0, none⟩) ch ch) rfl rfl (fun w hC K hK => ?_) rfl ?_
          · have fc : w.cell? ⟨g2, 0, none⟩ = some (.slice (some ⟨gp, 0, none⟩) ch ch) := hC.1.cell 0
            go_wp2_with fail
            exact hK
          simp only [Act.put, List.setIfInBounds_toArray, List.set_cons_zero, List.set_cons_succ]
          refine mW (.slice B nb cb) rfl rfl (fun w hC K hK => ?_) rfl ?_
          · have fc : w.cell? ⟨g3, 0, none⟩ = some (.slice B nb cb) := hC.2.1.cell 0
            go_wp2_with fail
            exact hK
          simp only [Act.put, List.setIfInBounds_toArray, List.set_cons_zero, List.set_cons_succ]
          refine mX ?_
          go_wp2_with fail
          refine mS (show S30 w g2 g3 (.slice (some ⟨gp, 0, none⟩) ch ch) (.slice B nb cb) _ from ⟨HK5.out, HK6.out, HK8.out⟩) ?_
          refine mX ?_
          go_wp2_with fail
          refine mS (show S30 w g2 g3 (.slice (some ⟨gp, 0, none⟩) ch ch) (.slice B nb cb) _ from ⟨HK11.out, HK12.out, HK14.out⟩) ?_
          refine mX ?_
          go_wp2_with fail
          refine mS (show S30 w g2 g3 (.slice (some ⟨gp, 0, none⟩) ch ch) (.slice B nb cb) _ from ⟨HK15.out, HK16.out, HK18.out⟩) ?_
          refine mN ?_
          go_wp2_with fail
          refine leaves_cons (f := 56) (args := #[.pointer (some ⟨g2, 0, none⟩), .pointer (some ⟨g3, 0, none⟩), .pointer (some ⟨g4, 0, none⟩)]) (by simp) (by simp [go_sem]) ?_
          refine (decIdle ⟨g2, 0, none⟩ ⟨g3, 0, none⟩ ⟨g4, 0, none⟩ _).mono ?_
          rintro e u' w'' ⟨rfl, rfl, rfl⟩
          refine ⟨_, resDE rfl HK15.out HK16.out HK17.out rfl rfl rfl, ?_⟩
          unfold DecC
          rw [HE.out]
          have hfe : ∀ c, c < ch → full p ch n S c k = rowTo p ch n S c NB := fun c hc => by rw [HKE.out, HNB.out]; exact full_end
          have hSE := HSd.out.congr (R' := fun c => rowTo p ch n S c NB) hfe
          refine ⟨some ⟨gp, 0, none⟩, ch, gs.map fun g => ((some ⟨g, 0, none⟩ : Option Addr), n), B, cb, by simp [← HKE.out, ← HNb.out], pcm_of_rows HGL.out (hSE.hp.only HKO.out ?_) (fun i g' h => (hSE.row i g' h).only HKO.out ?_) (fun c hc => ?_), ?_, HK18.out⟩
          · have h2 := hSE.hp.ne_ hSE.b2 (by decide)
            have h3 := hSE.hp.ne_ hSE.b3 (by decide)
            have h4 := hSE.hp.ne_ hSE.b4 (by decide)
            simp; exact ⟨h2, h3, h4⟩
          · have h2 := (hSE.row i g' h).ne_ hSE.b2 (by decide)
            have h3 := (hSE.row i g' h).ne_ hSE.b3 (by decide)
            have h4 := (hSE.row i g' h).ne_ hSE.b4 (by decide)
            simp; exact ⟨h2, h3, h4⟩
          · rw [← hfe c hc]
            exact full_len hc (by have := HKE.out; have := HNB.out; unfold nblk at this; omega)
          · simp only
            rw [← HKE.out, ← HNb.out]
            refine (Reads.of_own hSE.own).only HKO.out (fun _ ad he hm => ?_)
            subst he
            have hin : ad.block ∈ rowFp (.slice (some ad) nb cb) := by simp [rowFp, Value.ownBlock]
            simp at hm
            rcases hm with h | h | h
            · exact ne_own hSE.own hSE.b2 (by decide) (h ▸ hin)
            · exact ne_own hSE.own hSE.b3 (by decide) (h ▸ hin)
            · exact ne_own hSE.own hSE.b4 (by decide) (h ▸ hin)
end Go.Proofs.Ytmojlfgfaabegaa
