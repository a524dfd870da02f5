/- PutBlock. -/
import Derived.Test.YtmojlfgfaabegaaA6
import Derived.Deep.Light
import Derived.Test.YtmojlfgfaabegaaTk
namespace Go.Proofs.Ytmojlfgfaabegaa
open Go.RowKit bt

theorem zeroB : (Try.prog.info? 22).map (·.zero) = some (some (.slice none 0 0)) := by kernel_rfl
theorem zeroE : (Try.prog.info? 29).map (·.zero) = some (some (.int .i64 0)) := by kernel_rfl
section
variable {ops : Array Oper} {rest : List Oper} {o : Oper} {a : Act} {w : World} {Q : Exit → Act → World → Prop}
theorem alV (hgd : o.guard = none) (ho : o.op = .alloc 22) (k : ∀ g w', Blk w' g 22 #[.slice none 0 0] → Only [] w w' → w.heap.size ≤ g → wpList Try.prog ops Q rest (a.put o.dst (.pointer (some ⟨g, 0, none⟩))) w') : wpList Try.prog ops Q (o :: rest) a w :=
  wal _ _ hgd ho zeroB rfl k
theorem alE (hgd : o.guard = none) (ho : o.op = .alloc 29) (k : ∀ g w', Blk w' g 29 #[.int .i64 0] → Only [] w w' → w.heap.size ≤ g → wpList Try.prog ops Q rest (a.put o.dst (.pointer (some ⟨g, 0, none⟩))) w') : wpList Try.prog ops Q (o :: rest) a w :=
  wal _ _ hgd ho zeroE rfl k
end
theorem resBE {fn : Func} (h : fn.results = #[.cell 2 22, .cell 3 29]) {tmps : Array Value} {w : World} {g4 g5 n c : Nat} {A : Option Addr} {e : Int} (hb : Blk w g4 22 #[.slice A n c]) (he : Blk w g5 29 #[.int .i64 e])
    (hp : tmps.getD 2 undef = .pointer (some ⟨g4, 0, none⟩)) (hq : tmps.getD 3 undef = .pointer (some ⟨g5, 0, none⟩)) : (results fn tmps).run Try.prog w = .ok (.tuple #[.slice A n c, .int .i64 e]) w := by
  have hp' : tmps[2]?.getD undef = .pointer (some ⟨g4, 0, none⟩) := by simpa using hp
  have hq' : tmps[3]?.getD undef = .pointer (some ⟨g5, 0, none⟩) := by simpa using hq
  have hc1 : w.cell? ⟨g4, 0, none⟩ = some (.slice A n c) := hb.cell 0
  have hc : w.cell? ⟨g5, 0, none⟩ = some (.int .i64 e) := he.cell 0
  have h2 : (loadVar 29 ⟨g5, 0, none⟩).run Try.prog w = .ok (.int .i64 e) w := by
    simp [loadVar, hc, go_sem]
  have h1 : (loadVar 22 ⟨g4, 0, none⟩).run Try.prog w = .ok (.slice A n c) w := by
    simp [loadVar, hc1, go_sem]
  simp [results, h, hp', hq', asAddr, h1, h2]
/-- What PutBlock comes to. -/
def PB (ls : List (List Int)) : List Nat × Int :=
  if pr ls 32 = true ∧ (ls.headD []).length ≠ 0 then (sm ([ls.length, (ls.headD []).length] ++ payload (chs ls ls.length)), 0) else ([], 1)
def PutC (ls : List (List Int)) (w : World) (e : Ending) (w' : World) : Prop :=
  ∃ A c, e = .returned (.tuple #[.slice A (PB ls).1.length c, .int .i64 (PB ls).2]) ∧ Reads w' A 1 (PB ls).1.length (bytesV (PB ls).1) ∧ Only [] w w' ∧ (PB ls).1.length ≤ c
theorem PutC.of {ls : List (List Int)} {w w' : World} {A : Option Addr} {n c : Nat} {l : List Nat} {r : Int} (h : PB ls = (l, r)) (hn : n = l.length) (hr : Reads w' A 1 n (bytesV l)) (ho : Only [] w w') (hcap : n ≤ c) :
    PutC ls w (.returned (.tuple #[.slice A n c, .int .i64 r])) w' := by
  subst hn
  unfold PutC
  rw [h]
  exact ⟨A, c, rfl, hr, ho, hcap⟩
theorem own_cap {w : World} {base : Nat} {e : TypeId} {size n c : Nat} {A : Option Addr} {xs : List Value} (h : w.ownsRow base e size (.slice A n c) n xs) : n ≤ c := by
  rcases h.2 with ⟨h1, h2⟩ | ⟨g, cap, cur, h1, _, _, h2, _⟩
  · omega
  · injection h1 with h3 h4 h5; omega
theorem nm_mono {P : Program} {c : Code} {K : Act → World → Prop} {Q : Exit → Act → World → Prop} {a : Act} {w : World} (h : c.wp P (Nm K) a w) (k : ∀ a' w', K a' w' → Q .normal a' w') : c.wp P Q a w :=
  wp_mono h fun e a' w' hh => by
    cases e with
    | normal => exact k a' w' hh
    | _ => exact (hh : False).elim
theorem reg_then11 {P : Program} {c : Code} {Q : Exit → Act → World → Prop} {a : Act} {w : World} (R : World → Prop) (d0 d1 d2 d3 d4 d5 d6 d7 d8 d9 d10 : Nat)
    (h : c.wp P (Nm fun a' w' => ∃ v0 v1 v2 v3 v4 v5 v6 v7 v8 v9 v10 : Value, a' = (((((((((((a.put (some d0) v0).put (some d1) v1).put (some d2) v2).put (some d3) v3).put (some d4) v4).put (some d5) v5).put (some d6) v6).put (some d7) v7).put (some d8) v8).put (some d9) v9).put (some d10) v10) ∧ R w') a w) (k : ∀ (v0 v1 v2 v3 v4 v5 v6 v7 v8 v9 v10 : Value) w', R w' → Q .normal (((((((((((a.put (some d0) v0).put (some d1) v1).put (some d2) v2).put (some d3) v3).put (some d4) v4).put (some d5) v5).put (some d6) v6).put (some d7) v7).put (some d8) v8).put (some d9) v9).put (some d10) v10) w') : c.wp P Q a w :=
  nm_mono h fun a' w' ⟨v0, v1, v2, v3, v4, v5, v6, v7, v8, v9, v10, he, hr⟩ => by subst he; exact k v0 v1 v2 v3 v4 v5 v6 v7 v8 v9 v10 w' hr
theorem reg_then5 {P : Program} {c : Code} {Q : Exit → Act → World → Prop} {a : Act} {w : World} (R : World → Prop) (d0 d1 d2 d3 d4 : Nat)
    (h : c.wp P (Nm fun a' w' => ∃ v0 v1 v2 v3 v4 : Value, a' = (((((a.put (some d0) v0).put (some d1) v1).put (some d2) v2).put (some d3) v3).put (some d4) v4) ∧ R w') a w) (k : ∀ (v0 v1 v2 v3 v4 : Value) w', R w' → Q .normal (((((a.put (some d0) v0).put (some d1) v1).put (some d2) v2).put (some d3) v3).put (some d4) v4) w') : c.wp P Q a w :=
  nm_mono h fun a' w' ⟨v0, v1, v2, v3, v4, he, hr⟩ => by subst he; exact k v0 v1 v2 v3 v4 w' hr
def R23 (g2 : Nat) (wr : World) (xs : List Nat) (w' : World) : Prop :=
  ∃ A' c', Blk w' g2 22 #[.slice A' xs.length c'] ∧ w'.ownsRow 0 5 1 (.slice A' xs.length c') xs.length (bytesV xs) ∧ Only [g2] wr w' ∧ (∀ x ∈ rowFp (.slice A' xs.length c'), wr.heap.size ≤ x)
def R24 (g2 g3 : Nat) (w : World) (p : List Nat) (w' : World) : Prop :=
  ∃ A' c', Blk w' g2 22 #[.slice A' p.length c'] ∧ Blk w' g3 29 #[.int .i64 0] ∧ Reads w' A' 1 p.length (bytesV p) ∧ Only [] w w' ∧ p.length ≤ c'
theorem pC {P : Program} {ops : Array Oper} {S : World → Prop} {K : Act → World → Prop} {o : Oper} {a : Act} {w : World} {f : FuncId} {args : Array Value} {R : Ending → World → Prop} (hc : Calls P f args w R) (hw : Region.wanted o (yielded ops a.tmps) = true) (hv : ∀ w, (execOp a.eval o).run P w = .ok (.enter f args) w)
    (h : ∀ e w', R e w' → ∃ u, e = .returned u ∧ S w' ∧ K (a.put o.dst u) w') : wp1 P ops S K o a w := by
  refine p1 ?_
  unfold wpList
  rw [if_pos hw]
  refine .inl ?_
  unfold Oper.wp
  rw [hv w]
  refine hc.mono fun e w' he => ?_
  obtain ⟨u, rfl, h1, h2⟩ := h e w' he
  exact ⟨h1, h2⟩
theorem WriterIs.drew {w : World} {g : Nat} {F : List Nat} {l : List Bool} (h : WriterIs w g F l) : WriterIs w.drew g F l := WriterIs.then h ((Only.refl [] _).drew)
set_option maxRecDepth 100000 in
set_option maxHeartbeats 4000000 in
theorem putBlock_any (w : World) (A : Option Addr) (c : Nat) (hs : List (Option Addr × Nat)) (ls : List (List Int)) (h : PcmIs w A hs ls) (hn : ls.length ≤ 1099511627776) (hm : ∀ l ∈ ls, l.length ≤ 1099511627776 ∧ ∀ x ∈ l, -32768 ≤ x ∧ x ≤ 32767) :
    Calls Try.prog 21 #[.slice A ls.length c] w (PutC ls w) := by
  have hmf : ∀ (fn : Fn) (first cap : Array Value) (w : World), (Instr.makeFunc fn first cap).run Try.prog w = .ok (.func fn first cap) w := fun _ _ _ _ => rfl
  have HP := Lib.hid h
  have HM := Lib.hid hm
  clear h hm
  go_enter_defers Try.func21, Try.ntmps21
  have tok : True := trivial
  have tok2 : True := trivial
  go_wp2_with (first | (clear tok; refine alV rfl rfl ?_; rintro g2 w1 b1 o1 l1) | (clear tok2; refine alE rfl rfl ?_; rintro g3 w2 b3 o2 l2))
  have b2 := b1.only o2 (by simp)
  have ho2 := o1.then o2
  have h23 : g2 ≠ g3 := by have := b1.lt; omega
  have hg3 : w.heap.size ≤ g3 := by have := o1.size; omega
  have HP2 := Lib.hid (HP.out.then ho2)
  clear b1 o1 o2
  refine (proper_any _ A c hs ls HP2.out 32 hn (fun l hl => by have := (HM.out l hl).1; omega)).mono ?_
  rintro e w3 ⟨rfl, rfl⟩
  cases hp : pr ls 32 with
  | false =>
    have HE := Lib.hid (show PB ls = ([], 1) by unfold PB; rw [if_neg (by simp [hp])])
    clear hp
    have c2 : w2.cell? ⟨g2, 0, none⟩ = some (.slice none 0 0) := b2.cell 0
    have z2 := b2.frozen 0
    obtain ⟨s1, s2⟩ := b2.set1 0 (.slice none 0 0)
    have b3' := b3.far (p := ⟨g2, 0, none⟩) (Ne.symm h23) (.slice none 0 0)
    have c3 : (w2.setCell ⟨g2, 0, none⟩ (.slice none 0 0)).cell? ⟨g3, 0, none⟩ = some (.int .i64 0) := b3'.cell 0
    have z3 := b3'.frozen 0
    obtain ⟨t1, t2⟩ := b3'.set1 0 (.int .i64 1)
    have S1 := Lib.hid (s1.far (p := ⟨g3, 0, none⟩) h23 (.int .i64 1))
    have T1 := Lib.hid t1
    have HO := Lib.hid ((ho2.first s2 (by simp; exact l1)).first t2 (by simp; exact hg3))
    clear s1 s2 t1 t2 b3'
    go_wp2_with fail
    refine leaves_cons (f := 42) (args := #[.pointer (some ⟨g2, 0, none⟩), .pointer (some ⟨g3, 0, none⟩)]) (by simp) (by simp [go_sem]) ?_
    refine (putIdle ⟨g2, 0, none⟩ ⟨g3, 0, none⟩ _).mono ?_
    rintro e u' w'' ⟨rfl, rfl, rfl⟩
    exact ⟨_, resBE rfl S1.out T1.out rfl rfl, PutC.of HE.out rfl Reads.none_ HO.out (Nat.le_refl _)⟩
  | true =>
    obtain ⟨hl1, hl4, hall⟩ := pr_true.1 hp
    have Hp := Lib.hid hp
    have Hall := Lib.hid hall
    obtain ⟨l0, hl0⟩ : ∃ l0, ls[0]? = some l0 := ⟨_, List.getElem?_eq_getElem (by omega)⟩
    have hhd : ls.headD [] = l0 := by
      cases ls with
      | nil => simp at hl0
      | cons y m => simp at hl0; subst hl0; rfl
    obtain ⟨b, off, B0, cB0, rfl, cl0, _, _⟩ := HP2.out.at_ hl0
    rw [Nat.add_zero] at cl0
    have Hhd := Lib.hid hhd
    have hz : (0 : Int) < (ls.length : Int) := by omega
    have hl0m : l0.length ≤ 32 := by have := (hall l0 (List.mem_of_getElem? hl0)).2; omega
    clear hp hall hl0 hhd
    by_cases h0 : l0.length = 0
    · have HE := Lib.hid (show PB ls = ([], 1) by unfold PB; rw [if_neg (by rw [Hhd.out]; simp [h0])])
      have h0' : (l0.length : Int) = 0 := by omega
      clear h0
      have c2 : w2.cell? ⟨g2, 0, none⟩ = some (.slice none 0 0) := b2.cell 0
      have z2 := b2.frozen 0
      obtain ⟨s1, s2⟩ := b2.set1 0 (.slice none 0 0)
      have b3' := b3.far (p := ⟨g2, 0, none⟩) (Ne.symm h23) (.slice none 0 0)
      have c3 : (w2.setCell ⟨g2, 0, none⟩ (.slice none 0 0)).cell? ⟨g3, 0, none⟩ = some (.int .i64 0) := b3'.cell 0
      have z3 := b3'.frozen 0
      obtain ⟨t1, t2⟩ := b3'.set1 0 (.int .i64 1)
      have S1 := Lib.hid (s1.far (p := ⟨g3, 0, none⟩) h23 (.int .i64 1))
      have T1 := Lib.hid t1
      have HO := Lib.hid ((ho2.first s2 (by simp; exact l1)).first t2 (by simp; exact hg3))
      clear s1 s2 t1 t2 b3'
      go_wp2_with fail
      refine leaves_cons (f := 42) (args := #[.pointer (some ⟨g2, 0, none⟩), .pointer (some ⟨g3, 0, none⟩)]) (by simp) (by simp [go_sem]) ?_
      refine (putIdle ⟨g2, 0, none⟩ ⟨g3, 0, none⟩ _).mono ?_
      rintro e u' w'' ⟨rfl, rfl, rfl⟩
      exact ⟨_, resBE rfl S1.out T1.out rfl rfl, PutC.of HE.out rfl Reads.none_ HO.out (Nat.le_refl _)⟩
    have h0' : ((l0.length : Int) == 0) = false := beq_eq_false_iff_ne.2 (by omega)
    go_wp2_with fail
    clear h0' cl0
    refine (newWriter_any _).mono ?_
    rintro e w4 ⟨rfl, hw4, o4⟩
    obtain ⟨gw, hG⟩ : ∃ gw, gw = w2.heap.size := ⟨_, rfl⟩
    rw [← hG] at hw4 ⊢
    have hgw : w.heap.size ≤ gw := by have := ho2.size; omega
    have hgg : g2 ≠ gw ∧ g3 ≠ gw := by have := b2.lt; have := b3.lt; omega
    have HW4 := Lib.hid hw4
    have HB2 := Lib.hid (b2.only o4 (by simp))
    have HB3 := Lib.hid (b3.only o4 (by simp))
    have HO4 := Lib.hid (ho2.then o4)
    clear hw4 o4 b2 b3 ho2 hG
    go_wp2_with fail
    go_loopw [26] (fun i wr => ∃ k : Nat, k ≤ ls.length ∧ i = .int .i64 (k : Int) ∧ ∃ F, Hid (WriterIs wr gw F (chs ls k)) ∧ Hid (∀ x ∈ F, w.heap.size ≤ x) ∧ Hid (g2 ∉ F ∧ g3 ∉ F) ∧ Hid (Blk wr g2 22 #[.slice none 0 0]) ∧ Hid (Blk wr g3 29 #[.int .i64 0]) ∧ Hid (Only [] w wr)) (fun i _ => ls.length - (intOf i).toNat)
    case atStart => exact ⟨0, Nat.zero_le _, rfl, [gw], HW4, Lib.hid (by simpa using hgw), Lib.hid (by simpa using hgg), HB2, HB3, HO4⟩
    case round =>
      obtain ⟨k, hk, rfl, F, HW, HF, HgF, HBk2, HBk3, HO⟩ := hrel
      have hcl := chs_len ls k
      by_cases hlt : k < ls.length
      · obtain ⟨l, hl⟩ : ∃ l, ls[k]? = some l := ⟨_, List.getElem?_eq_getElem hlt⟩
        obtain ⟨b', off', B, cB, hA, cl, rl, hhs⟩ := (HP.out.then HO.out).at_ hl
        injection hA with hA
        injection hA with hA1 hA2
        subst hA1 hA2
        have hki : (k : Int) < (ls.length : Int) := by omega
        have hgd : ls.getD k [] = l := by rw [List.getD_eq_getElem?_getD, hl]; rfl
        have hlm := (Hall.out l (List.mem_of_getElem? hl)).2
        have hlx := (HM.out l (List.mem_of_getElem? hl)).2
        have Hlx := Lib.hid hlx
        have Hgd := Lib.hid hgd
        have RL0 := Lib.hid (HP.out.each k (B, cB) l hhs hl)
        have hl32 : l.length ≤ 32 := by omega
        clear hl hgd hlx
        go_wp2_with fail
        refine (exponent_any _ B cB l rl Hlx.out (by omega)).mono ?_
        rintro e w5 ⟨rfl, rfl⟩
        have he7 := expo_le l
        have hmt0 : putErr (expo l : Int) 4 = 0 := putErr_ok (v := expo l) (n := 4) (by omega) (by omega)
        have hpb : putBits (chs ls k) (expo l : Int) 4 = chs ls k ++ bitsOf (expo l) 4 := putBits_ok (l := chs ls k) (v := expo l) (n := 4) (by omega) (by omega)
        have Hc0 := Lib.hid (show chs ls k ++ bitsOf (expo l) 4 = chs ls k ++ chn l 0 from rfl)
        have Hmt0 := Lib.hid hmt0
        have Hpb := Lib.hid hpb
        have hex : ∃ e : Nat, e = expo l := ⟨_, rfl⟩
        clear hmt0 hpb rl cl hex
        go_wp2_with fail
        refine (put_any _ gw F _ (expo l : Int) 4 HW.out (by omega) (by omega)).mono ?_
        rintro e w6 ⟨rfl, F6, hw6, o6, f6⟩
        rw [Hpb.out, Hc0.out] at hw6
        rw [Hmt0.out]
        have HW6 := Lib.hid hw6
        have HF6 := Lib.hid (show ∀ x ∈ F6, w.heap.size ≤ x from fun x hx => by
          rcases f6 x hx with h | h
          · exact HF.out x h
          · have := HO.out.size; omega)
        have HgF6 := Lib.hid (show g2 ∉ F6 ∧ g3 ∉ F6 from ⟨fun hx => by
          rcases f6 g2 hx with h | h
          · exact HgF.out.1 h
          · have := HBk2.out.lt; omega, fun hx => by
          rcases f6 g3 hx with h | h
          · exact HgF.out.2 h
          · have := HBk3.out.lt; omega⟩)
        have HB26 := Lib.hid (HBk2.out.only o6 HgF.out.1)
        have HB36 := Lib.hid (HBk3.out.only o6 HgF.out.2)
        have HO6 := Lib.hid (HO.out.first o6 (fun x hx => HF.out x hx))
        clear hw6 f6 o6 HW HF HgF HBk2 HBk3 HO Hpb Hmt0 Hc0
        go_wp2_with fail
        go_loopw [39] (fun iv wr => ∃ i : Nat, i ≤ 32 ∧ iv = .int .i64 (i : Int) ∧ ∃ F, Hid (WriterIs wr gw F (chs ls k ++ chn l i)) ∧ Hid (∀ x ∈ F, w.heap.size ≤ x) ∧ Hid (g2 ∉ F ∧ g3 ∉ F) ∧ Hid (Blk wr g2 22 #[.slice none 0 0]) ∧ Hid (Blk wr g3 29 #[.int .i64 0]) ∧ Hid (Only [] w wr)) (fun iv _ => 32 - (intOf iv).toNat)
        case atStart => exact ⟨0, by omega, rfl, F6, HW6, HF6, HgF6, HB26, HB36, HO6⟩
        case round =>
          obtain ⟨i, hi, rfl, F7, HW7, HF7, HgF7, HB27, HB37, HO7⟩ := hrel
          have hcn := chn_len l i
          by_cases hi32 : i < 32
          · have hid : (i : Int) < 32 := by omega
            have hmtl := mt_lt l i
            have hpe : putErr (mt l i : Int) 9 = 0 := putErr_ok (v := mt l i) (n := 9) (by omega) (by omega)
            have hpb : putBits (chs ls k ++ chn l i) (mt l i : Int) 9 = chs ls k ++ chn l (i + 1) := by
              rw [show (9 : Int) = ((9 : Nat) : Int) from rfl, putBits_ok (by omega) (by omega), List.append_assoc]; rfl
            have Hpe := Lib.hid hpe
            have Hpb := Lib.hid hpb
            have hlen : (chs ls k ++ chn l i).length ≤ 1099511627776 := by rw [List.length_append]; omega
            clear hpe hpb
            have hput := put_any (g := gw) (F := F7) (l := chs ls k ++ chn l i) (v := (mt l i : Int)) (n := 9)
            by_cases hil : i < l.length
            · obtain ⟨x, hx⟩ : ∃ x, l[i]? = some x := ⟨_, List.getElem?_eq_getElem hil⟩
              have hx8 := Hlx.out x (List.mem_of_getElem? hx)
              have hx' : (sV l)[i]? = some (.int .i16 x) := by simp [sV, hx]
              obtain ⟨bB, offB, rfl, hcB⟩ := (RL0.out.then HO7.out).plain (by omega) (by omega)
              have hcx := hcB _ _ hx'
              have hmx : (mt l i : Int) = (x / 2 ^ expo l) % 512 := by unfold mt; rw [List.getD_eq_getElem?_getD, hx]; simp; omega
              have hild : (i : Int) < (l.length : Int) := by omega
              clear hput hcB hx' hx
              have hmk := mask9m (x / 2 ^ expo l)
              have hmk2 := mask9 x (2 ^ expo l)
              rw [← hmx] at hmk hmk2
              generalize mt l i = M at hmk hmk2 hmx Hpe Hpb hmtl
              clear hmx
              go_wp2_with fail
              refine (put_any _ gw F7 _ (M : Int) 9 HW7.out (by omega) hlen).mono ?_
              rintro e w8 ⟨rfl, F8, hw8, o8, f8⟩
              rw [Hpb.out] at hw8
              rw [Hpe.out]
              have HW8 := Lib.hid hw8
              have HF8 := Lib.hid (show ∀ x ∈ F8, w.heap.size ≤ x from fun x hx => by
                rcases f8 x hx with h | h
                · exact HF7.out x h
                · have := HO7.out.size; omega)
              have HgF8 := Lib.hid (show g2 ∉ F8 ∧ g3 ∉ F8 from ⟨fun hx => by
                rcases f8 g2 hx with h | h
                · exact HgF7.out.1 h
                · have := HB27.out.lt; omega, fun hx => by
                rcases f8 g3 hx with h | h
                · exact HgF7.out.2 h
                · have := HB37.out.lt; omega⟩)
              have HB28 := Lib.hid (HB27.out.only o8 HgF7.out.1)
              have HB38 := Lib.hid (HB37.out.only o8 HgF7.out.2)
              have HO8 := Lib.hid (HO7.out.first o8 (fun x hx => HF7.out x hx))
              go_wp2_with fail
              go_roundw
              case rel => exact ⟨i + 1, by omega, by go_num, F8, HW8, HF8, HgF8, HB28, HB38, HO8⟩
              case measure => simp [intOf]; omega
            · have hm0 : mt l i = 0 := by unfold mt; rw [List.getD_eq_getElem?_getD, List.getElem?_eq_none (by omega)]; simp
              have hild : (l.length : Int) ≤ (i : Int) := by omega
              rw [hm0] at Hpe Hpb
              clear hput
              go_wp2_with fail
              refine (put_any _ gw F7 _ 0 9 HW7.out (by omega) hlen).mono ?_
              rintro e w8 ⟨rfl, F8, hw8, o8, f8⟩
              have hw8' : WriterIs w8 gw F8 (chs ls k ++ chn l (i + 1)) := by have := hw8; rw [show (0 : Int) = ((0 : Nat) : Int) from rfl, Hpb.out] at this; exact this
              rw [show putErr 0 9 = 0 from Hpe.out]
              have HW8 := Lib.hid hw8'
              have HF8 := Lib.hid (show ∀ x ∈ F8, w.heap.size ≤ x from fun x hx => by
                rcases f8 x hx with h | h
                · exact HF7.out x h
                · have := HO7.out.size; omega)
              have HgF8 := Lib.hid (show g2 ∉ F8 ∧ g3 ∉ F8 from ⟨fun hx => by
                rcases f8 g2 hx with h | h
                · exact HgF7.out.1 h
                · have := HB27.out.lt; omega, fun hx => by
                rcases f8 g3 hx with h | h
                · exact HgF7.out.2 h
                · have := HB37.out.lt; omega⟩)
              have HB28 := Lib.hid (HB27.out.only o8 HgF7.out.1)
              have HB38 := Lib.hid (HB37.out.only o8 HgF7.out.2)
              have HO8 := Lib.hid (HO7.out.first o8 (fun x hx => HF7.out x hx))
              go_wp2_with fail
              go_roundw
              case rel => exact ⟨i + 1, by omega, by go_num, F8, HW8, HF8, HgF8, HB28, HB38, HO8⟩
              case measure => simp [intOf]; omega
          · have hi' : i = 32 := by omega
            subst hi'
            have HWn := Lib.hid (show WriterIs wr gw F7 (chs ls (k + 1)) by have := HW7.out; rw [show chs ls (k + 1) = chs ls k ++ chn l 32 by simp only [chs]; rw [Hgd.out]]; exact this)
            go_wp2_with fail
            go_roundw
            case rel => exact ⟨k + 1, by omega, by go_num, F7, HWn, HF7, HgF7, HB27, HB37, HO7⟩
            case measure => simp [intOf]; omega
      · have hke : k = ls.length := by omega
        subst hke
        clear hlt
        go_wp2_with fail
        obtain ⟨b', off', B0', cB0', hA, c0', _, _⟩ := HP.out.at_ (show ls[0]? = some l0 from by
          have := Hhd.out
          cases ls with
          | nil => simp at hl1
          | cons y m => simp at this; subst this; rfl)
        injection hA with hA
        injection hA with hA1 hA2
        subst hA1 hA2
        rw [Nat.add_zero] at c0'
        have HR := Lib.hid HO.out
        have hn4 : ls.length ≤ 4 := hl4
        have HPB := Lib.hid (show PB ls = (sm ([ls.length, l0.length] ++ payload (chs ls ls.length)), 0) by unfold PB; rw [if_pos ⟨Hp.out, by rw [Hhd.out]; omega⟩, Hhd.out])
        have HCL := Lib.hid hcl
        have hl0p : 1 ≤ l0.length := by omega
        clear HP HM HP2 hn hmf Hp Hall Hhd HW4 HB2 HB3 HO4 hcl hl1 hl4 hk h0
        generalize chs ls ls.length = bts at *
        have fc0 : ∀ w', Cls w w' → w'.cell? ⟨b, off, none⟩ = some (.slice B0' l0.length cB0') := fun w' h => h.cell c0'
        refine reg_then11 (R23 g2 wr [ls.length, l0.length]) 62 63 64 65 66 67 68 69 70 71 72 ?_ ?_
        · clear HW HPB HCL
          go_light
          refine rgnP (Cls w) [1, 2, 3, 4, 5, 6, 7, 8] 0 9 [(10, false), (11, false)] _ _ (by kernel_rfl) (by kernel_rfl) rfl rfl HO.out.drew ?_
          simp only [pickF, nth, pickL]
          have e1 : IntKind.u8.wrap (ls.length : Int) = (ls.length : Int) := by rw [IntKind.wrap_u8']; omega
          have e2 : IntKind.u8.wrap (l0.length : Int) = (l0.length : Int) := by rw [IntKind.wrap_u8']; omega
          refine fW ?_
          refine mW (.slice (some ⟨b, off, none⟩) ls.length c) rfl rfl (fun w hC K hK => ?_) rfl ?_
          · have fc := fc0 w hC
            go_wp2_with fail
            exact hK
          simp only [Act.put, List.setIfInBounds_toArray, List.set_cons_zero, List.set_cons_succ]
          refine mN ?_
          refine fW ?_
          refine mW (.int .i64 (ls.length : Int)) rfl rfl (fun w hC K hK => ?_) rfl ?_
          · have fc := fc0 w hC
            go_wp2_with fail
            exact hK
          simp only [Act.put, List.setIfInBounds_toArray, List.set_cons_zero, List.set_cons_succ]
          refine mN ?_
          refine fW ?_
          refine mW (.int .u8 (ls.length : Int)) rfl rfl (fun w hC K hK => ?_) rfl ?_
          · have fc := fc0 w hC
            go_wp2_with fail
            exact hK
          simp only [Act.put, List.setIfInBounds_toArray, List.set_cons_zero, List.set_cons_succ]
          refine mN ?_
          refine fW ?_
          refine mW (.slice (some ⟨b, off, none⟩) ls.length c) rfl rfl (fun w hC K hK => ?_) rfl ?_
          · have fc := fc0 w hC
            go_wp2_with fail
            exact hK
          simp only [Act.put, List.setIfInBounds_toArray, List.set_cons_zero, List.set_cons_succ]
          refine mN ?_
          refine fW ?_
          refine mW (.pointer (some ⟨b, off, none⟩)) rfl rfl (fun w hC K hK => ?_) rfl ?_
          · have fc := fc0 w hC
            go_wp2_with fail
            exact hK
          simp only [Act.put, List.setIfInBounds_toArray, List.set_cons_zero, List.set_cons_succ]
          refine mN ?_
          refine fW ?_
          refine mW (.slice B0' l0.length cB0') rfl rfl (fun w hC K hK => ?_) rfl ?_
          · have fc := fc0 w hC
            go_wp2_with fail
            exact hK
          simp only [Act.put, List.setIfInBounds_toArray, List.set_cons_zero, List.set_cons_succ]
          refine mN ?_
          refine fW ?_
          refine mW (.int .i64 (l0.length : Int)) rfl rfl (fun w hC K hK => ?_) rfl ?_
          · have fc := fc0 w hC
            go_wp2_with fail
            exact hK
          simp only [Act.put, List.setIfInBounds_toArray, List.set_cons_zero, List.set_cons_succ]
          refine mN ?_
          refine fW ?_
          refine mW (.int .u8 (l0.length : Int)) rfl rfl (fun w hC K hK => ?_) rfl ?_
          · have fc := fc0 w hC
            go_wp2_with fail
            exact hK
          simp only [Act.put, List.setIfInBounds_toArray, List.set_cons_zero, List.set_cons_succ]
          refine mN ?_
          clear fc0
          obtain ⟨i0, hi0, hz0, hz1, hz2⟩ := info_parts info_u8
          have c2 : wr.drew.cell? ⟨g2, 0, none⟩ = some (.slice none 0 0) := HBk2.out.cell 0
          have ow0 : ∀ w' : World, w'.ownsRow 0 5 1 (.slice none 0 0) 0 [] := fun w' => ⟨rfl, .inl ⟨rfl, rfl⟩⟩
          refine fN ⟨?_, ?_⟩
          · refine p1 ?_
            go_wp2_with fail
            refine p1S HO.out.drew ?_
            refine p1 ?_
            go_wp2_with fail
            refine p1S (HO.out.drew.alloc _) ?_
            have ox : Only [] wr (wr.alloc (.cells #[.int .u8 (ls.length : Int), .int .u8 (l0.length : Int)] 5)).drew := ((Only.refl [] wr).alloc _).drew
            have rx : Reads (wr.alloc (.cells #[.int .u8 (ls.length : Int), .int .u8 (l0.length : Int)] 5)).drew (some ⟨wr.heap.size, 0, none⟩) 1 2 [.int .u8 (ls.length : Int), .int .u8 (l0.length : Int)] := Reads.two wr _ _ _
            generalize (wr.alloc (.cells #[.int .u8 (ls.length : Int), .int .u8 (l0.length : Int)] 5)).drew = wa at ox rx ⊢
            refine mX ?_
            go_wp2_with (at_builtin; refine wpList_app _ rfl _ _ 22 rfl 5 i0 (.int .u8 0) 1 1 Try.underlying22 hi0 hz0 hz1 hz2 rfl (by decide) none 0 0 [] rfl (ow0 _) _ 2 2 [.int .u8 (ls.length : Int), .int .u8 (l0.length : Int)] rfl rx ?c2 ?c3 ?c4 ?_)
            case c2 => intro u hu; simp at hu; rcases hu with rfl | rfl <;> rfl
            case c3 => unfold maxLen; omega
            case c4 => omega
            intro A' c' w5 own5 o5 f5
            have o5' : Only [] wr w5 := ox.then o5
            have hgl := HBk2.out.lt
            have B5 : Blk w5 g2 22 #[.slice none 0 0] := HBk2.out.only o5' (by simp)
            have hfr : ∀ x ∈ rowFp (.slice A' (0 + 2) c'), wr.heap.size ≤ x := fun x hx => by
              rcases f5 x hx with h | h
              · cases h
              · have := ox.size; omega
            refine mS (HO.out.then o5') ?_
            have c5 : w5.cell? ⟨g2, 0, none⟩ = some (.slice none 0 0) := B5.cell 0
            have z5 := B5.frozen 0
            obtain ⟨s1, s2⟩ := B5.set1 0 (.slice A' (0 + 2) c')
            have HS1 := Lib.hid s1
            have HS2 := Lib.hid s2
            have HO5 := Lib.hid own5
            have Ho5 := Lib.hid o5'
            have Hfr := Lib.hid hfr
            have HCw := Lib.hid ((HO.out.then o5').first s2 (by simp; exact l1))
            clear s1 s2 own5 o5 f5 o5' hfr
            refine mX ?_
            go_wp2_with fail
            refine mS HCw.out ?_
            refine mN ?_
            refine ⟨⟨_, _, _, _, _, _, _, _, _, _, _, rfl⟩, A', c', HS1.out, own_only HO5.out HS2.out (fun k hk => by have := Hfr.out k hk; simp; omega), (Ho5.out.mono (by simp)).trans HS2.out (Fresh.refl _ _), Hfr.out⟩
          · refine p1 ?_
            go_wp2_with fail
            refine p1S (HO.out.drew.alloc _) ?_
            have ox : Only [] wr (wr.alloc (.cells #[.int .u8 (ls.length : Int), .int .u8 (l0.length : Int)] 5)).drew := ((Only.refl [] wr).alloc _).drew
            have rx : Reads (wr.alloc (.cells #[.int .u8 (ls.length : Int), .int .u8 (l0.length : Int)] 5)).drew (some ⟨wr.heap.size, 0, none⟩) 1 2 [.int .u8 (ls.length : Int), .int .u8 (l0.length : Int)] := Reads.two wr _ _ _
            generalize (wr.alloc (.cells #[.int .u8 (ls.length : Int), .int .u8 (l0.length : Int)] 5)).drew = wa at ox rx ⊢
            refine p1 ?_
            have c3 : wa.cell? ⟨g2, 0, none⟩ = some (.slice none 0 0) := (HBk2.out.only ox (by simp)).cell 0
            go_wp2_with fail
            refine p1S (HO.out.then ox) ?_
            refine mX ?_
            go_wp2_with (at_builtin; refine wpList_app _ rfl _ _ 22 rfl 5 i0 (.int .u8 0) 1 1 Try.underlying22 hi0 hz0 hz1 hz2 rfl (by decide) none 0 0 [] rfl (ow0 _) _ 2 2 [.int .u8 (ls.length : Int), .int .u8 (l0.length : Int)] rfl rx ?c2 ?c3 ?c4 ?_)
            case c2 => intro u hu; simp at hu; rcases hu with rfl | rfl <;> rfl
            case c3 => unfold maxLen; omega
            case c4 => omega
            intro A' c' w5 own5 o5 f5
            have o5' : Only [] wr w5 := ox.then o5
            have hgl := HBk2.out.lt
            have B5 : Blk w5 g2 22 #[.slice none 0 0] := HBk2.out.only o5' (by simp)
            have hfr : ∀ x ∈ rowFp (.slice A' (0 + 2) c'), wr.heap.size ≤ x := fun x hx => by
              rcases f5 x hx with h | h
              · cases h
              · have := ox.size; omega
            refine mS (HO.out.then o5') ?_
            have c5 : w5.cell? ⟨g2, 0, none⟩ = some (.slice none 0 0) := B5.cell 0
            have z5 := B5.frozen 0
            obtain ⟨s1, s2⟩ := B5.set1 0 (.slice A' (0 + 2) c')
            have HS1 := Lib.hid s1
            have HS2 := Lib.hid s2
            have HO5 := Lib.hid own5
            have Ho5 := Lib.hid o5'
            have Hfr := Lib.hid hfr
            have HCw := Lib.hid ((HO.out.then o5').first s2 (by simp; exact l1))
            clear s1 s2 own5 o5 f5 o5' hfr
            refine mX ?_
            go_wp2_with fail
            refine mS HCw.out ?_
            refine mN ?_
            refine ⟨⟨_, _, _, _, _, _, _, _, _, _, _, rfl⟩, A', c', HS1.out, own_only HO5.out HS2.out (fun k hk => by have := Hfr.out k hk; simp; omega), (Ho5.out.mono (by simp)).trans HS2.out (Fresh.refl _ _), Hfr.out⟩
        · intro v0 v1 v2 v3 v4 v5 v6 v7 v8 v9 v10 w6 hR
          simp only [Act.put, List.setIfInBounds_toArray, List.set_cons_zero, List.set_cons_succ]
          obtain ⟨A2, c2, hb6, own6, o6, f6⟩ := hR
          have hg2l := HBk2.out.lt
          have hg3l := HBk3.out.lt
          have hwl := HO.out.size
          have HW6 := Lib.hid (WriterIs.drew (WriterIs.only HW.out o6 (fun k hk => by intro hm; simp at hm; subst hm; exact HgF.out.1 hk)))
          have HB26 := Lib.hid hb6.drew
          have HB36 := Lib.hid (HBk3.out.only o6 (by simp; omega)).drew
          have OWN6 := Lib.hid (show w6.drew.ownsRow 0 5 1 (.slice A2 2 c2) 2 (bytesV [ls.length, l0.length]) from own6)
          have HC := Lib.hid (show Cls w w6.drew from (HO.out.first o6 (by simp; exact l1)).drew)
          have hs6 := o6.size
          clear hb6 own6 o6 HW HBk2 HBk3 HO HR HF HgF
          go_wp2_with fail
          obtain ⟨pp, hpp⟩ : ∃ pp, pp = sm ([ls.length, l0.length] ++ payload bts) := ⟨_, rfl⟩
          have HPP := Lib.hid hpp
          have HPB' := Lib.hid (show PB ls = (pp, 0) by rw [HPP.out]; exact HPB.out)
          clear hpp HPB
          refine reg_then5 (R24 g2 g3 w pp) 73 74 75 76 77 ?_ ?_
          · clear HPB'
            go_light
            have hbl : bts.length ≤ 1168 := by have := HCL.out; omega
            have HPX := Lib.hid (show ∀ x ∈ [ls.length, l0.length] ++ payload bts, x < 256 from fun x hx => by
              rcases List.mem_append.1 hx with h | h
              · simp at h; omega
              · exact payload_lt _ x h)
            clear HCL
            obtain ⟨i0, hi0, hz0, hz1, hz2⟩ := info_parts info_u8
            have c6 : w6.drew.cell? ⟨g2, 0, none⟩ = some (.slice A2 2 c2) := HB26.out.cell 0
            have hs6d : w6.drew.heap.size = w6.heap.size := rfl
            refine rgnP (Cls w) [1] 0 2 [(3, false), (4, false), (5, false), (6, false)] _ _ (by kernel_rfl) (by kernel_rfl) rfl rfl HC.out ?_
            simp only [pickF, nth, pickL]
            refine fW ?_
            refine mW (.pointer (some ⟨gw, 0, none⟩)) rfl rfl (fun w hC K hK => ?_) rfl ?_
            · go_wp2_with fail
              exact hK
            simp only [Act.put, List.setIfInBounds_toArray, List.set_cons_zero, List.set_cons_succ]
            refine mN ?_
            refine fN ⟨?_, ?_⟩
            · refine p1 ?_
              go_wp2_with fail
              refine p1S HC.out ?_
              refine pC (payload_any _ gw F bts HW6.out (by omega)) rfl (fun w => by go_simp; try rfl) ?_
              rintro e w7 ⟨rfl, hb7, o7⟩
              refine ⟨_, rfl, HC.out.then o7, ?_⟩
              simp only [Act.put, List.setIfInBounds_toArray, List.set_cons_zero, List.set_cons_succ]
              have own7 := own_only OWN6.out o7 (fun _ _ => List.not_mem_nil)
              have RD7 := Lib.hid (payload_reads hb7)
              have B27 := Lib.hid (HB26.out.only o7 (by simp))
              have B37 := Lib.hid (HB36.out.only o7 (by simp))
              have HC7 := Lib.hid (HC.out.then o7)
              have OWN7 := Lib.hid own7
              have hs7 := o7.size
              have HPL := Lib.hid (payload_length bts)
              clear own7 hb7 o7
              generalize w6.drew.heap.size = gp at RD7 ⊢
              refine mX ?_
              go_wp2_with (at_builtin; refine wpList_app _ rfl _ _ 22 rfl 5 i0 (.int .u8 0) 1 1 Try.underlying22 hi0 hz0 hz1 hz2 rfl (by decide) A2 2 c2 (bytesV [ls.length, l0.length]) rfl OWN7.out _ (bts.length / 8 + 1) (bts.length / 8 + 1) (bytesV (payload bts)) rfl RD7.out (bytesV_one _) ?c3 ?c4 ?_)
              case c3 => unfold maxLen; omega
              case c4 => omega
              intro A8 c8 w8 own8 o8 f8
              have HC8 := Lib.hid (HC7.out.first o8 (fun x hx => by have := f6 x hx; omega))
              have B28 := Lib.hid (B27.out.only o8 (fun hx => by have := f6 _ hx; omega))
              have B38 := Lib.hid (B37.out.only o8 (fun hx => by have := f6 _ hx; omega))
              have f8' : ∀ x ∈ rowFp (.slice A8 (2 + (bts.length / 8 + 1)) c8), wr.heap.size ≤ x := fun x hx => by
                rcases f8 x hx with h | h
                · exact f6 x h
                · omega
              have OWN8 := Lib.hid own8
              clear own8 o8 f8
              refine mS HC8.out ?_
              refine mC (appendSum_any _ A8 c8 (2 + (bts.length / 8 + 1)) ([ls.length, l0.length] ++ payload bts) (by have := HPL.out; simp; omega) (by rw [bytesV_append]; exact OWN8.out) HPX.out (by have := HPL.out; simp; omega)) rfl (fun w => by go_simp; try rfl) ?_
              rintro e w9 ⟨A9, c9, rfl, own9, o9, f9⟩
              have HC9 := Lib.hid (HC8.out.first o9 (fun x hx => by have := f8' x hx; omega))
              have B29 := B28.out.only o9 (fun hx => by have := f8' _ hx; omega)
              have B39 := B38.out.only o9 (fun hx => by have := f8' _ hx; omega)
              have hs9 := o9.size
              have hs8 := HC8.out.size
              have f9' : ∀ x ∈ rowFp (.slice A9 (2 + (bts.length / 8 + 1) + 2) c9), x ≠ g2 ∧ x ≠ g3 := fun x hx => by
                rcases f9 x hx with h | h
                · have := f8' x h; omega
                · have := B28.out.lt; have := B38.out.lt; omega
              have OWN9 := Lib.hid own9
              refine ⟨_, rfl, HC9.out, ?_⟩
              clear own9 o9 f9
              simp only [Act.put, List.setIfInBounds_toArray, List.set_cons_zero, List.set_cons_succ]
              have hnn : 2 + (bts.length / 8 + 1) + 2 = pp.length := by rw [HPP.out]; have := HPL.out; unfold sm; simp; omega
              have RD9 : Reads w9 A9 1 pp.length (bytesV pp) := by have := Reads.of_own OWN9.out; rw [← HPP.out, hnn] at this; exact this
              have hcap9 : pp.length ≤ c9 := by rw [← hnn]; exact own_cap OWN9.out
              rw [hnn] at f9' ⊢
              have hof : ∀ g, g = g2 ∨ g = g3 → Off A9 pp.length [g] := fun g hg _ ad e => by
                subst e
                have := f9' ad.block (by simp [rowFp, Value.ownBlock])
                simp; rcases hg with rfl | rfl
                · exact this.1
                · exact this.2
              have c9a : w9.cell? ⟨g2, 0, none⟩ = some (.slice A2 2 c2) := B29.cell 0
              have z9a := B29.frozen 0
              obtain ⟨s1, s2⟩ := B29.set1 0 (.slice A9 pp.length c9)
              have b39 := B39.far (p := ⟨g2, 0, none⟩) (Ne.symm h23) (.slice A9 pp.length c9)
              have c9b : (w9.setCell ⟨g2, 0, none⟩ (.slice A9 pp.length c9)).cell? ⟨g3, 0, none⟩ = some (.int .i64 0) := b39.cell 0
              have z9b := b39.frozen 0
              obtain ⟨t1, t2⟩ := b39.set1 0 (.int .i64 0)
              have S1 := Lib.hid (s1.far (p := ⟨g3, 0, none⟩) h23 (.int .i64 0))
              have T1 := Lib.hid t1
              have HCa := Lib.hid (HC9.out.first s2 (by simp; exact l1))
              have HCb := Lib.hid (HCa.out.first t2 (by simp; exact hg3))
              have RDb := Lib.hid ((RD9.only s2 (hof _ (.inl rfl))).only t2 (hof _ (.inr rfl)))
              clear s1 s2 t1 t2 b39 RD9 B29 B39 hof f9' hnn
              refine mX ?_
              go_wp2_with fail
              refine mS HCa.out ?_
              refine mX ?_
              go_wp2_with fail
              refine mS HCb.out ?_
              refine mN ?_
              exact ⟨⟨_, _, _, _, _, rfl⟩, A9, c9, S1.out, T1.out, RDb.out, HCb.out, hcap9⟩
            · refine pC (payload_any _ gw F bts HW6.out (by omega)) rfl (fun w => by go_simp; try rfl) ?_
              rintro e w7 ⟨rfl, hb7, o7⟩
              refine ⟨_, rfl, HC.out.then o7, ?_⟩
              simp only [Act.put, List.setIfInBounds_toArray, List.set_cons_zero, List.set_cons_succ]
              have c7 : w7.cell? ⟨g2, 0, none⟩ = some (.slice A2 2 c2) := (HB26.out.only o7 (by simp)).cell 0
              refine p1 ?_
              go_wp2_with fail
              refine p1S (HC.out.then o7) ?_
              have own7 := own_only OWN6.out o7 (fun _ _ => List.not_mem_nil)
              have RD7 := Lib.hid (payload_reads hb7)
              have B27 := Lib.hid (HB26.out.only o7 (by simp))
              have B37 := Lib.hid (HB36.out.only o7 (by simp))
              have HC7 := Lib.hid (HC.out.then o7)
              have OWN7 := Lib.hid own7
              have hs7 := o7.size
              have HPL := Lib.hid (payload_length bts)
              clear own7 hb7 o7
              generalize w6.drew.heap.size = gp at RD7 ⊢
              refine mX ?_
              go_wp2_with (at_builtin; refine wpList_app _ rfl _ _ 22 rfl 5 i0 (.int .u8 0) 1 1 Try.underlying22 hi0 hz0 hz1 hz2 rfl (by decide) A2 2 c2 (bytesV [ls.length, l0.length]) rfl OWN7.out _ (bts.length / 8 + 1) (bts.length / 8 + 1) (bytesV (payload bts)) rfl RD7.out (bytesV_one _) ?c3 ?c4 ?_)
              case c3 => unfold maxLen; omega
              case c4 => omega
              intro A8 c8 w8 own8 o8 f8
              have HC8 := Lib.hid (HC7.out.first o8 (fun x hx => by have := f6 x hx; omega))
              have B28 := Lib.hid (B27.out.only o8 (fun hx => by have := f6 _ hx; omega))
              have B38 := Lib.hid (B37.out.only o8 (fun hx => by have := f6 _ hx; omega))
              have f8' : ∀ x ∈ rowFp (.slice A8 (2 + (bts.length / 8 + 1)) c8), wr.heap.size ≤ x := fun x hx => by
                rcases f8 x hx with h | h
                · exact f6 x h
                · omega
              have OWN8 := Lib.hid own8
              clear own8 o8 f8
              refine mS HC8.out ?_
              refine mC (appendSum_any _ A8 c8 (2 + (bts.length / 8 + 1)) ([ls.length, l0.length] ++ payload bts) (by have := HPL.out; simp; omega) (by rw [bytesV_append]; exact OWN8.out) HPX.out (by have := HPL.out; simp; omega)) rfl (fun w => by go_simp; try rfl) ?_
              rintro e w9 ⟨A9, c9, rfl, own9, o9, f9⟩
              have HC9 := Lib.hid (HC8.out.first o9 (fun x hx => by have := f8' x hx; omega))
              have B29 := B28.out.only o9 (fun hx => by have := f8' _ hx; omega)
              have B39 := B38.out.only o9 (fun hx => by have := f8' _ hx; omega)
              have hs9 := o9.size
              have hs8 := HC8.out.size
              have f9' : ∀ x ∈ rowFp (.slice A9 (2 + (bts.length / 8 + 1) + 2) c9), x ≠ g2 ∧ x ≠ g3 := fun x hx => by
                rcases f9 x hx with h | h
                · have := f8' x h; omega
                · have := B28.out.lt; have := B38.out.lt; omega
              have OWN9 := Lib.hid own9
              refine ⟨_, rfl, HC9.out, ?_⟩
              clear own9 o9 f9
              simp only [Act.put, List.setIfInBounds_toArray, List.set_cons_zero, List.set_cons_succ]
              have hnn : 2 + (bts.length / 8 + 1) + 2 = pp.length := by rw [HPP.out]; have := HPL.out; unfold sm; simp; omega
              have RD9 : Reads w9 A9 1 pp.length (bytesV pp) := by have := Reads.of_own OWN9.out; rw [← HPP.out, hnn] at this; exact this
              have hcap9 : pp.length ≤ c9 := by rw [← hnn]; exact own_cap OWN9.out
              rw [hnn] at f9' ⊢
              have hof : ∀ g, g = g2 ∨ g = g3 → Off A9 pp.length [g] := fun g hg _ ad e => by
                subst e
                have := f9' ad.block (by simp [rowFp, Value.ownBlock])
                simp; rcases hg with rfl | rfl
                · exact this.1
                · exact this.2
              have c9a : w9.cell? ⟨g2, 0, none⟩ = some (.slice A2 2 c2) := B29.cell 0
              have z9a := B29.frozen 0
              obtain ⟨s1, s2⟩ := B29.set1 0 (.slice A9 pp.length c9)
              have b39 := B39.far (p := ⟨g2, 0, none⟩) (Ne.symm h23) (.slice A9 pp.length c9)
              have c9b : (w9.setCell ⟨g2, 0, none⟩ (.slice A9 pp.length c9)).cell? ⟨g3, 0, none⟩ = some (.int .i64 0) := b39.cell 0
              have z9b := b39.frozen 0
              obtain ⟨t1, t2⟩ := b39.set1 0 (.int .i64 0)
              have S1 := Lib.hid (s1.far (p := ⟨g3, 0, none⟩) h23 (.int .i64 0))
              have T1 := Lib.hid t1
              have HCa := Lib.hid (HC9.out.first s2 (by simp; exact l1))
              have HCb := Lib.hid (HCa.out.first t2 (by simp; exact hg3))
              have RDb := Lib.hid ((RD9.only s2 (hof _ (.inl rfl))).only t2 (hof _ (.inr rfl)))
              clear s1 s2 t1 t2 b39 RD9 B29 B39 hof f9' hnn
              refine mX ?_
              go_wp2_with fail
              refine mS HCa.out ?_
              refine mX ?_
              go_wp2_with fail
              refine mS HCb.out ?_
              refine mN ?_
              exact ⟨⟨_, _, _, _, _, rfl⟩, A9, c9, S1.out, T1.out, RDb.out, HCb.out, hcap9⟩
          · intro v11 v12 v13 v14 v15 w9 hR
            simp only [Act.put, List.setIfInBounds_toArray, List.set_cons_zero, List.set_cons_succ]
            obtain ⟨A9, c9, hb9, he9, hr9, ho9, hcap9⟩ := hR
            have HE := HPB'
            clear HCL HW6 HB26 HB36 OWN6 HC HPP HPB'
            go_wp2_with fail
            refine leaves_cons (f := 42) (args := #[.pointer (some ⟨g2, 0, none⟩), .pointer (some ⟨g3, 0, none⟩)]) (by simp) (by simp [go_sem]) ?_
            refine (putIdle ⟨g2, 0, none⟩ ⟨g3, 0, none⟩ _).mono ?_
            rintro e u' w'' ⟨rfl, rfl, rfl⟩
            exact ⟨_, resBE rfl hb9 he9 rfl rfl, PutC.of HE.out rfl hr9 ho9 hcap9⟩
end Go.Proofs.Ytmojlfgfaabegaa
