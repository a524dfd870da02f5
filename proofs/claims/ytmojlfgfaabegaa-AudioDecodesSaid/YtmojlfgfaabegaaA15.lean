/- The plain coded sound; Encode. -/
import Derived.Test.YtmojlfgfaabegaaA14
import Derived.Lib.AppendStr
namespace Go.Proofs.Ytmojlfgfaabegaa
open Go.RowKit bt

/-- Block k of sound. -/
def bk (ls : List (List Int)) (k : Nat) : List (List Int) := ls.map fun l => (l.drop (32 * k)).take 32
def nblk (n : Nat) : Nat := (n + 31) / 32
def hd8 (ch n : Nat) : List Nat := [67, 82, 83, 68, ch, n / 65536 % 256, n / 256 % 256, n % 256]
def encTo (ls : List (List Int)) (n : Nat) : Nat → List Nat
  | 0 => sm (hd8 ls.length n)
  | k + 1 => encTo ls n k ++ (PB (bk ls k)).1
/-- What Encode comes to. -/
def EN (ls : List (List Int)) : List Nat × Int := if pr ls 1048576 = true then (encTo ls (ls.headD []).length (nblk (ls.headD []).length), 0) else ([], 1)
def EncC (ls : List (List Int)) (w : World) (e : Ending) (w' : World) : Prop :=
  ∃ A c, e = .returned (.tuple #[.slice A (EN ls).1.length c, .int .i64 (EN ls).2]) ∧ Reads w' A 1 (EN ls).1.length (bytesV (EN ls).1) ∧ Only [] w w' ∧ (EN ls).1.length ≤ c
theorem EncC.of {ls : List (List Int)} {w w' : World} {A : Option Addr} {n c : Nat} {l : List Nat} {r : Int} (h : EN ls = (l, r)) (hn : n = l.length) (hr : Reads w' A 1 n (bytesV l)) (ho : Only [] w w') (hcap : n ≤ c) :
    EncC ls w (.returned (.tuple #[.slice A n c, .int .i64 r])) w' := by
  subst hn
  unfold EncC
  rw [h]
  exact ⟨A, c, rfl, hr, ho, hcap⟩
theorem PB_len (ls : List (List Int)) : (PB ls).1.length ≤ 5 + 292 * ls.length / 8 := by
  unfold PB
  split
  · simp only [sm_len, List.length_append, payload_length, chs_len, List.length_cons, List.length_nil]
    omega
  · simp
theorem PB_len' {ls : List (List Int)} (h : pr ls 32 = true ∧ (ls.headD []).length ≠ 0) : (PB ls).1.length = 5 + 292 * ls.length / 8 ∧ (PB ls).2 = 0 := by
  unfold PB
  rw [if_pos h]
  refine ⟨?_, rfl⟩
  simp only [sm_len, List.length_append, payload_length, chs_len, List.length_cons, List.length_nil]
  omega
theorem bk_len (ls : List (List Int)) (k : Nat) : (bk ls k).length = ls.length := by simp [bk]
theorem bk_get {ls : List (List Int)} {k i : Nat} {l : List Int} (h : ls[i]? = some l) : (bk ls k)[i]? = some ((l.drop (32 * k)).take 32) := by simp [bk, h]
theorem bk_row (l : List Int) (k : Nat) : ((l.drop (32 * k)).take 32).length = min 32 (l.length - 32 * k) := by simp
theorem bk_ok {ls : List (List Int)} {k n : Nat} (hp : pr ls 1048576 = true) (hn : (ls.headD []).length = n) (hk : 32 * k < n) : pr (bk ls k) 32 = true ∧ ((bk ls k).headD []).length ≠ 0 := by
  obtain ⟨h1, h2, h3⟩ := pr_true.1 hp
  have hall : ∀ l ∈ bk ls k, l.length = min 32 (n - 32 * k) := fun l hl => by
    unfold bk at hl
    rw [List.mem_map] at hl
    obtain ⟨l', hl', rfl⟩ := hl
    rw [bk_row, (h3 l' hl').1, hn]
  have hhd : (bk ls k).headD [] ∈ bk ls k := by
    have : 1 ≤ (bk ls k).length := by rw [bk_len]; exact h1
    cases hb : bk ls k with
    | nil => rw [hb] at this; simp at this
    | cons y m => simp
  refine ⟨pr_true.2 ⟨by rw [bk_len]; exact h1, by rw [bk_len]; exact h2, fun l hl => ⟨by rw [hall l hl, hall _ hhd], by rw [hall l hl]; omega⟩⟩, by rw [hall _ hhd]; omega⟩
theorem encTo_len (ls : List (List Int)) (n : Nat) (h : ls.length ≤ 4) : ∀ k, (encTo ls n k).length ≤ 10 + 151 * k
  | 0 => by simp [encTo, sm_len, hd8]
  | k + 1 => by
    have h1 := encTo_len ls n h k
    have h2 := PB_len (bk ls k)
    rw [bk_len] at h2
    simp only [encTo, List.length_append]
    omega
theorem hd8_lt {ch n : Nat} (h : ch ≤ 4) : ∀ x ∈ hd8 ch n, x < 256 := by
  intro x hx
  unfold hd8 at hx
  simp only [List.mem_cons, List.not_mem_nil, or_false] at hx
  omega
theorem encTo_lt (ls : List (List Int)) (n : Nat) (h : ls.length ≤ 4) : ∀ k, ∀ x ∈ encTo ls n k, x < 256
  | 0 => sm_lt (hd8_lt h)
  | k + 1 => fun x hx => by
    simp only [encTo] at hx
    rcases List.mem_append.1 hx with h' | h'
    · exact encTo_lt ls n h k x h'
    · exact PB_lt _ (by rw [bk_len]; omega) x h'
set_option maxHeartbeats 1000000 in
theorem encIdle (p q : Addr) (w : World) :
    CallsD Try.prog 54 #[.pointer (some p), .pointer (some q)] .returning w fun e u' w' => e = .returned (.tuple #[]) ∧ u' = .returning ∧ w' = w := by
  refine callsD_of_wpS Try.func54 rfl fun c₀ cs hu => ?_
  apply wpS_seq
  apply wpS_region
  simp [wpOpsS, go_sem, recoverD, hu, Try.ntmps54, Exit.thenS]
  refine wpS_cond (t := false) (by simp [Act.eval, Array.replicate]) ?_
  simp only [Bool.false_eq_true, if_false]
  refine wpS_of_wp (wp_skip ?_)
  exact ⟨rfl, .returning, congrArg (· :: cs) (same_mode hu), .tuple #[], by simp [results, Try.results54], rfl, rfl, rfl⟩
/-- A row of headers while it is filled. -/
def prt (xs : List Value) (ch c : Nat) : List Value := xs.take c ++ List.replicate (ch - c) (.slice none 0 0)
theorem prt_zero (xs : List Value) (ch : Nat) : prt xs ch 0 = List.replicate ch (.slice none 0 0) := by simp [prt]
theorem prt_end {xs : List Value} {ch : Nat} (h : xs.length = ch) : prt xs ch ch = xs := by simp [prt, ← h]
theorem prt_get {xs : List Value} {ch c : Nat} (h : xs.length = ch) (hc : c < ch) : (prt xs ch c)[c]? = some (.slice none 0 0) := by
  unfold prt
  rw [List.getElem?_append_right (by simp; omega), List.getElem?_replicate, if_pos (by simp; omega)]
theorem prt_step {xs : List Value} {ch c : Nat} {v : Value} (h : xs.length = ch) (hc : c < ch) (hv : xs[c]? = some v) : (prt xs ch c).toArray.setIfInBounds c v = (prt xs ch (c + 1)).toArray := by
  rw [List.setIfInBounds_toArray]
  congr 1
  unfold prt
  have hl : (xs.take c).length = c := by simp; omega
  rw [List.set_append_right _ _ (by omega), hl, Nat.sub_self]
  obtain ⟨d, hd⟩ : ∃ d, ch - c = d + 1 := ⟨ch - c - 1, by omega⟩
  have hd2 : ch - (c + 1) = d := by omega
  rw [hd, hd2, List.replicate_succ, List.set_cons_zero, List.take_add_one, hv]
  simp
/-- The headers of block k. -/
def cutH (k : Nat) (h : Option Addr × Nat) : Option Addr × Nat := ((if h.2 = 32 * k then h.1 else h.1.map (·.add (32 * k * 1))), h.2 - 32 * k)
theorem cut_row {l : List Int} {k n : Nat} (h : l.length ≤ n ∧ n ≤ l.length) : ((sV l).take (min (32 * k + 32) n)).drop (32 * k) = sV ((l.drop (32 * k)).take 32) := by
  unfold sV
  rw [← List.map_take, ← List.map_drop]
  congr 1
  rw [List.drop_take]
  apply List.ext_getElem?
  intro j
  by_cases hj : j < min (32 * k + 32) n - 32 * k
  · rw [List.getElem?_take_of_lt hj, List.getElem?_take_of_lt (by omega)]
  · rw [List.getElem?_eq_none (by simp; omega), List.getElem?_eq_none (by simp; omega)]
theorem cut_pcm {w : World} {hs : List (Option Addr × Nat)} {ls : List (List Int)} {gB k n : Nat} {A : Option Addr} (h : PcmIs w A hs ls) (hn : ∀ l ∈ ls, l.length = n) (hk : 32 * k < n) (hb : Blk w gB 39 (rowsV (hs.map (cutH k)) (bk ls k)).toArray) :
    PcmIs w (some ⟨gB, 0, none⟩) (hs.map (cutH k)) (bk ls k) := by
  refine ⟨by rw [bk_len, List.length_map, h.len], Reads.of_blk hb _ (by simp [rowsV, bk_len, h.len]), fun i x l h1 h2 => ?_, fun i x l h1 h2 => ?_⟩
  · unfold bk at h2
    rw [List.getElem?_map] at h1 h2
    cases hx : hs[i]? with
    | none => rw [hx] at h1; cases h1
    | some x' =>
      cases hl : ls[i]? with
      | none => rw [hl] at h2; cases h2
      | some l' =>
        rw [hx] at h1
        rw [hl] at h2
        simp only [Option.map_some, Option.some.injEq] at h1 h2
        subst h1 h2
        have hln := hn l' (List.mem_of_getElem? hl)
        have := (h.each i x' l' hx hl).sub (j := 32 * k) (m := min (32 * k + 32) n) (c := x'.2) (by omega) (by omega) (h.cap i x' l' hx hl)
        rw [bk_row, hln, show min 32 (n - 32 * k) = min (32 * k + 32) n - 32 * k by omega]
        have e : ((sV l').take (min (32 * k + 32) n)).drop (32 * k) = sV ((l'.drop (32 * k)).take 32) := by
          unfold sV
          rw [← List.map_take, ← List.map_drop]
          congr 1
          rw [List.drop_take]
          apply List.ext_getElem?
          intro j
          by_cases hj : j < min (32 * k + 32) n - 32 * k
          · rw [List.getElem?_take_of_lt hj, List.getElem?_take_of_lt (by omega)]
          · rw [List.getElem?_eq_none (by simp; omega), List.getElem?_eq_none (by simp; omega)]
        rw [e] at this
        exact this
  · unfold bk at h2
    rw [List.getElem?_map] at h1 h2
    cases hx : hs[i]? with
    | none => rw [hx] at h1; cases h1
    | some x' =>
      cases hl : ls[i]? with
      | none => rw [hl] at h2; cases h2
      | some l' =>
        rw [hx] at h1
        rw [hl] at h2
        simp only [Option.map_some, Option.some.injEq] at h1 h2
        subst h1 h2
        have := h.cap i x' l' hx hl
        rw [bk_row]
        unfold cutH
        simp only
        omega
/-- The named results of Encode while it runs: the bytes so far, no error. -/
structure St (w : World) (g2 g3 : Nat) (wr : World) (A : Option Addr) (nn cc : Nat) (xs : List Nat) : Prop where
  b2 : Blk wr g2 22 #[.slice A nn cc]
  b3 : Blk wr g3 29 #[.int .i64 0]
  own : wr.ownsRow 0 5 1 (.slice A nn cc) nn (bytesV xs)
  fp : ∀ x ∈ rowFp (.slice A nn cc), w.heap.size ≤ x ∧ x ≠ g2 ∧ x ≠ g3
  only : Only [] w wr
section
variable {w wr w1 : World} {g2 g3 nn cc n1 c1 : Nat} {A A1 : Option Addr} {xs ys : List Nat}
theorem St.then (h : St w g2 g3 wr A nn cc xs) (o : Only [] wr w1) : St w g2 g3 w1 A nn cc xs :=
  ⟨h.b2.only o (by simp), h.b3.only o (by simp), own_only h.own o (by simp), h.fp, h.only.then o⟩
theorem St.cell (h : St w g2 g3 wr A nn cc xs) : wr.cell? ⟨g2, 0, none⟩ = some (.slice A nn cc) := h.b2.cell 0
theorem St.app (h : St w g2 g3 wr A nn cc xs) (h23 : g2 ≠ g3) (l1 : w.heap.size ≤ g2) (own1 : w1.ownsRow 0 5 1 (.slice A1 n1 c1) n1 (bytesV ys)) (o1 : Only (rowFp (.slice A nn cc)) wr w1) (f1 : Fresh wr (rowFp (.slice A nn cc)) (rowFp (.slice A1 n1 c1))) :
    w1.cell? ⟨g2, 0, none⟩ = some (.slice A nn cc) ∧ w1.frozen? ⟨g2, 0, none⟩ = false ∧ St w g2 g3 (w1.setCell ⟨g2, 0, none⟩ (.slice A1 n1 c1)) A1 n1 c1 ys := by
  have hgl2 := h.b2.lt
  have hgl3 := h.b3.lt
  have hsz := h.only.size
  have B2 := h.b2.only o1 (fun hh => (h.fp _ hh).2.1 rfl)
  have B3 := h.b3.only o1 (fun hh => (h.fp _ hh).2.2 rfl)
  have hfx : ∀ x ∈ rowFp (.slice A1 n1 c1), w.heap.size ≤ x ∧ x ≠ g2 ∧ x ≠ g3 := fun x hx => by
    rcases f1 x hx with hh | hh
    · exact h.fp x hh
    · omega
  obtain ⟨s1, s2⟩ := B2.set1 0 (.slice A1 n1 c1)
  exact ⟨B2.cell 0, B2.frozen 0, ⟨s1, B3.far (p := ⟨g2, 0, none⟩) (Ne.symm h23) _, own_only own1 s2 (fun x hx => by have := (hfx x hx).2.1; simp; omega), hfx, (h.only.first o1 (fun x hx => (h.fp x hx).1)).first s2 (by simp; exact l1)⟩⟩
end
theorem own_ge {w : World} {base : Nat} {e : TypeId} {size n : Nat} {v : Value} {xs : List Value} (h : w.ownsRow base e size v n xs) : ∀ k ∈ rowFp v, base ≤ k := by
  intro k hk
  rcases h.2 with ⟨rfl, _⟩ | ⟨g, cap, cur, rfl, hb, _, _⟩
  · simp [rowFp, Value.ownBlock] at hk
  · simp [rowFp, Value.ownBlock] at hk
    omega
theorem Reads.four (w : World) (u v x y : Value) (e : TypeId) : Reads (w.alloc (.cells #[u, v, x, y] e)) (some ⟨w.heap.size, 0, none⟩) 1 4 [u, v, x, y] :=
  ⟨rfl, fun _ => ⟨_, rfl, fun j z hz => by
    match j, hz with
    | 0, hx => simp at hx; subst hx; simp [Addr.add]
    | 1, hx => simp at hx; subst hx; simp [Addr.add]
    | 2, hx => simp at hx; subst hx; simp [Addr.add]
    | 3, hx => simp at hx; subst hx; simp [Addr.add]⟩⟩
theorem strC : Lib.strCells { data := #[67, 82, 83, 68] } = bytesV [67, 82, 83, 68] := rfl
set_option maxRecDepth 100000 in
set_option maxHeartbeats 4000000 in
theorem encode_any (w : World) (P0 : Option Addr) (c : Nat) (hs : List (Option Addr × Nat)) (ls : List (List Int)) (h : PcmIs w P0 hs ls) (hn : ls.length ≤ 1099511627776) (hm : ∀ l ∈ ls, l.length ≤ 1099511627776 ∧ ∀ x ∈ l, -32768 ≤ x ∧ x ≤ 32767) :
    Calls Try.prog 26 #[.slice P0 ls.length c] w (EncC ls w) := by
  have hmf : ∀ (fn : Fn) (first cap : Array Value) (w : World), (Instr.makeFunc fn first cap).run Try.prog w = .ok (.func fn first cap) w := fun _ _ _ _ => rfl
  obtain ⟨i0, hi0, hz0, hz1, hz2⟩ := info_parts info_u8
  obtain ⟨i1, hi1, hy0, hy1, hy2⟩ := info_parts info_s16
  have HP := Lib.hid h
  have HM := Lib.hid hm
  clear h hm
  go_enter_defers Try.func26, Try.ntmps26
  have tok : True := trivial
  have tok2 : True := trivial
  go_wp2_with (first | (clear tok; refine alV rfl rfl ?_; rintro g2 w1 b1 o1 l1) | (clear tok2; refine alE rfl rfl ?_; rintro g3 w2 b3 o2 l2))
  have b2 := b1.only o2 (by simp)
  have ho2 := o1.then o2
  have h23 : g2 ≠ g3 := by have := b1.lt; omega
  have hg3 : w.heap.size ≤ g3 := by have := o1.size; omega
  clear b1 o1 o2 hmf
  refine (proper_any _ P0 c hs ls (HP.out.then ho2) 1048576 hn (fun l hl => by have := (HM.out l hl).1; omega)).mono ?_
  rintro e w3 ⟨rfl, rfl⟩
  cases hp : pr ls 1048576 with
  | false =>
    have HE := Lib.hid (show EN ls = ([], 1) by unfold EN; rw [if_neg (by simp [hp])])
    clear hp
    have c2 : w2.cell? ⟨g2, 0, none⟩ = some (.slice none 0 0) := b2.cell 0
    have z2 := b2.frozen 0
    obtain ⟨s1, s2⟩ := b2.set1 0 (.slice none 0 0)
    have b3' := b3.far (p := ⟨g2, 0, none⟩) (Ne.symm h23) (.slice none 0 0)
    have c3 : (w2.setCell ⟨g2, 0, none⟩ (.slice none 0 0)).cell? ⟨g3, 0, none⟩ = some (.int .i64 0) := b3'.cell 0
    have z3 := b3'.frozen 0
    obtain ⟨t1, t2⟩ := b3'.set1 0 (.int .i64 1)
    have S1 := Lib.hid (s1.far (p := ⟨g3, 0, none⟩) h23 (.int .i64 1))
    have T1 := Lib.hid t1
    have HOx := Lib.hid ((ho2.first s2 (by simp; exact l1)).first t2 (by simp; exact hg3))
    clear s1 s2 t1 t2 b3'
    go_wp2_with fail
    refine leaves_cons (f := 54) (args := #[.pointer (some ⟨g2, 0, none⟩), .pointer (some ⟨g3, 0, none⟩)]) (by simp) (by simp [go_sem]) ?_
    refine (encIdle ⟨g2, 0, none⟩ ⟨g3, 0, none⟩ _).mono ?_
    rintro e u' w'' ⟨rfl, rfl, rfl⟩
    exact ⟨_, resBE rfl S1.out T1.out rfl rfl, EncC.of HE.out rfl Reads.none_ HOx.out (Nat.le_refl _)⟩
  | true =>
    obtain ⟨hl1, hl4, hall⟩ := pr_true.1 hp
    obtain ⟨l0, hl0⟩ : ∃ l0, ls[0]? = some l0 := ⟨_, List.getElem?_eq_getElem (by omega)⟩
    have hhd : ls.headD [] = l0 := head_get hl0
    have hl0m : l0.length ≤ 1048576 := by have := (hall l0 (List.mem_of_getElem? hl0)).2; omega
    obtain ⟨n, hnn⟩ : ∃ n, n = l0.length := ⟨_, rfl⟩
    rw [← hnn] at hl0m
    have Hall := Lib.hid (show ∀ l ∈ ls, l.length = n from fun l hl => by rw [(hall l hl).1, hhd, hnn])
    have HE := Lib.hid (show EN ls = (encTo ls n (nblk n), 0) by unfold EN; rw [if_pos hp, hhd, hnn])
    have HBK := Lib.hid (show ∀ k, 32 * k < n → pr (bk ls k) 32 = true ∧ ((bk ls k).headD []).length ≠ 0 from fun k hk => bk_ok hp (by rw [hhd, hnn]) hk)
    obtain ⟨b, off, B0, cB0, rfl, cl0, _, _⟩ := (HP.out.then ho2).at_ hl0
    rw [Nat.add_zero, ← hnn] at cl0
    have hz : (0 : Int) < (ls.length : Int) := by omega
    have HB2 := Lib.hid b2
    have HB3 := Lib.hid b3
    have HO := Lib.hid ho2
    have c2 : w2.cell? ⟨g2, 0, none⟩ = some (.slice none 0 0) := b2.cell 0
    clear hp hall hl0 hhd hnn b2 b3 ho2
    go_wp2_with (at_builtin; refine Lib.wpList_append_own_string _ rfl _ _ 22 9 rfl w2.heap.size 5 i0 Try.underlying22 Try.underlying9 hi0 hz0 hz1 hz2 (.slice none 0 0) 0 [] rfl (World.ownsRow_nil _ _ _ _) _ rfl (by decide) (by decide) (Nat.le_refl _) ?_)
    rintro v1 w1 own1 gr1 -
    obtain ⟨A1, c1, rfl⟩ := own_form own1
    have o1 : Only (rowFp (.slice none 0 0)) w2 w1 := ((Only.refl [] w2).grown gr1 (fun k hk => by cases hk)).mono (by simp)
    have f1 : Fresh w2 (rowFp (.slice none 0 0)) (rowFp (.slice A1 4 c1)) := fun k hk => .inr (own_ge own1 k hk)
    have S0 : St w g2 g3 w2 none 0 0 [] := ⟨HB2.out, HB3.out, World.ownsRow_nil _ _ _ _, by simp [rowFp, Value.ownBlock], HO.out⟩
    obtain ⟨c2x, z2x, S1⟩ := S0.app h23 l1 (ys := [67, 82, 83, 68]) (own_low own1 (Nat.zero_le _)) o1 f1
    have HS1 := Lib.hid S1
    clear own1 gr1 o1 f1 S0 S1 HB2 HB3 HO c2
    have cl1 : (w1.setCell ⟨g2, 0, none⟩ (.slice A1 4 c1)).cell? ⟨g2, 0, none⟩ = some (.slice A1 4 c1) := HS1.out.cell
    have e1 : IntKind.u8.wrap (ls.length : Int) = (ls.length : Int) := by rw [IntKind.wrap_u8']; omega
    have e2 : IntKind.u8.wrap ((n : Int) / 65536) = ((n / 65536 % 256 : Nat) : Int) := by rw [IntKind.wrap_u8']; omega
    have e3 : IntKind.u8.wrap ((n : Int) / 256) = ((n / 256 % 256 : Nat) : Int) := by rw [IntKind.wrap_u8']; omega
    have e4 : IntKind.u8.wrap (n : Int) = ((n % 256 : Nat) : Int) := by rw [IntKind.wrap_u8']; omega
    have e2' : ((n : Int) / 65536) % 256 = ((n / 65536 % 256 : Nat) : Int) := by omega
    have e3' : ((n : Int) / 256) % 256 = ((n / 256 % 256 : Nat) : Int) := by omega
    have e4' : (n : Int) % 256 = ((n % 256 : Nat) : Int) := by omega
    have HH8 := Lib.hid (show hd8 ls.length n = [67, 82, 83, 68] ++ [ls.length, n / 65536 % 256, n / 256 % 256, n % 256] from rfl)
    obtain ⟨n1, hn1⟩ : ∃ n1, n1 = n / 65536 % 256 := ⟨_, rfl⟩
    obtain ⟨n2, hn2⟩ : ∃ n2, n2 = n / 256 % 256 := ⟨_, rfl⟩
    obtain ⟨n3, hn3⟩ : ∃ n3, n3 = n % 256 := ⟨_, rfl⟩
    rw [← hn1, ← hn2, ← hn3] at HH8
    rw [← hn1] at e2 e2'
    rw [← hn2] at e3 e3'
    rw [← hn3] at e4 e4'
    clear hn1 hn2 hn3
    have R4 := Lib.hid (show Reads ((w1.setCell ⟨g2, 0, none⟩ (.slice A1 4 c1)).alloc (.cells #[.int .u8 (ls.length : Int), .int .u8 (n1 : Int), .int .u8 (n2 : Int), .int .u8 (n3 : Int)] 5)) (some ⟨w1.heap.size, 0, none⟩) 1 4 [.int .u8 (ls.length : Int), .int .u8 (n1 : Int), .int .u8 (n2 : Int), .int .u8 (n3 : Int)] by
      have := Reads.four (w1.setCell ⟨g2, 0, none⟩ (.slice A1 4 c1)) (.int .u8 (ls.length : Int)) (.int .u8 (n1 : Int)) (.int .u8 (n2 : Int)) (.int .u8 (n3 : Int)) 5
      rwa [World.size_setCell] at this)
    go_wp2_with (at_builtin; refine wpList_app _ rfl _ _ 22 rfl 5 i0 (.int .u8 0) 1 1 Try.underlying22 hi0 hz0 hz1 hz2 rfl (by decide) A1 4 c1 (bytesV [67, 82, 83, 68]) rfl (HS1.out.own.alloc _) _ 4 4 [.int .u8 (ls.length : Int), .int .u8 (n1 : Int), .int .u8 (n2 : Int), .int .u8 (n3 : Int)] rfl R4.out (by intro u hu; simp at hu; rcases hu with rfl | rfl | rfl | rfl <;> rfl) (by unfold maxLen; omega) (by omega) ?_)
    intro A3 c3 w3 own3 o3 f3
    clear e1 e2 e3 e4 e2' e3' e4' c2x z2x cl1 R4
    have o3' := ((Only.refl (rowFp (.slice A1 4 c1)) (w1.setCell ⟨g2, 0, none⟩ (.slice A1 4 c1))).alloc _).trans o3 (Fresh.refl _ _)
    have f3' : Fresh (w1.setCell ⟨g2, 0, none⟩ (.slice A1 4 c1)) (rowFp (.slice A1 4 c1)) (rowFp (.slice A3 8 c3)) := fun x hx => by
      rcases f3 x hx with h | h
      · exact .inl h
      · exact .inr (by simp at h ⊢; omega)
    have own3' : w3.ownsRow 0 5 1 (.slice A3 8 c3) 8 (bytesV (hd8 ls.length n)) := by rw [HH8.out, bytesV_append]; exact own3
    generalize w1.setCell ⟨g2, 0, none⟩ (.slice A1 4 c1) = wa at HS1 o3' f3'
    obtain ⟨c2x, z2x, S3⟩ := HS1.out.app h23 l1 own3' o3' f3'
    have HS3 := Lib.hid S3
    have cl3 : (w3.setCell ⟨g2, 0, none⟩ (.slice A3 8 c3)).cell? ⟨g2, 0, none⟩ = some (.slice A3 8 c3) := HS3.out.cell
    clear own3 own3' o3 o3' f3 f3' S3 HS1
    go_wp2_with fail
    clear c2x z2x cl3
    generalize w3.setCell ⟨g2, 0, none⟩ (.slice A3 8 c3) = wb at HS3 ⊢
    refine (appendSum_any _ A3 c3 8 (hd8 ls.length n) rfl HS3.out.own (hd8_lt hl4) (by simp [hd8])).mono ?_
    rintro e w5 ⟨A5, c5, rfl, own5, o5, f5⟩
    obtain ⟨c2x, z2x, S5⟩ := HS3.out.app h23 l1 own5 o5 f5
    have HS5 := Lib.hid S5
    clear own5 o5 f5 S5 HS3
    go_wp2_with fail
    clear c2x z2x
    generalize w5.setCell ⟨g2, 0, none⟩ (.slice A5 (8 + 2) c5) = wc at HS5 ⊢
    have HLN := Lib.hid (show ∀ k, (encTo ls n k).length ≤ 10 + 151 * k from encTo_len ls n hl4)
    go_loopw [5] (fun fv wr => ∃ k F : Nat, Hid (F = 32 * k) ∧ (32 * k < n + 32) ∧ fv = .int .i64 (F : Int) ∧ ∃ A c, Hid (St w g2 g3 wr A (encTo ls n k).length c (encTo ls n k))) (fun fv _ => n + 32 - (intOf fv).toNat)
    case atStart => exact ⟨0, 0, Lib.hid rfl, by omega, rfl, A5, c5, HS5⟩
    case round =>
      obtain ⟨k, F, HFK, hk, rfl, A, cA, HS⟩ := hrel
      have hFK := HFK.out
      by_cases hlt : F < n
      · have hFn : (F : Int) < (n : Int) := by omega
        have hlk := HLN.out k
        obtain ⟨hbk1, hbk2⟩ := HBK.out k (by omega)
        obtain ⟨hpl, hpe⟩ := PB_len' ⟨hbk1, hbk2⟩
        rw [bk_len] at hpl
        have HPE := Lib.hid hpe
        have hpl2 : (PB (bk ls k)).1.length ≤ 151 := by omega
        clear hbk1 hbk2 hpl hpe hFK
        go_wp2_with (at_make; refine wpList_mk _ rfl _ _ 28 rfl 39 i1 (.slice none 0 0) Try.underlying28 hi1 hy0 hy1 rfl _ _ _ _ ls.length rfl rfl rfl rfl (by rw [hy2]; omega) (by unfold maxLen; omega) ?_)
        intro w6 hb6 o6 hs6
        obtain ⟨gB, hgB⟩ : ∃ gB, gB = wr.heap.size := ⟨_, rfl⟩
        rw [← hgB] at hb6 ⊢
        have hgBw : w.heap.size ≤ gB := by have := HS.out.only.size; omega
        have hhl : hs.length = ls.length := HP.out.len
        obtain ⟨xs, hxs⟩ : ∃ xs, xs = rowsV (hs.map (cutH k)) (bk ls k) := ⟨_, rfl⟩
        have hxl : xs.length = ls.length := by rw [hxs]; simp [rowsV, bk_len, hhl]
        have HXS := Lib.hid hxs
        have HXL := Lib.hid hxl
        have HB6 := Lib.hid (show Blk w6 gB 39 (prt xs ls.length 0).toArray by rw [prt_zero]; exact hb6)
        have HO6 := Lib.hid o6
        have HGB := Lib.hid hgB
        have HOW := Lib.hid (HS.out.only.then o6)
        obtain ⟨M, hM⟩ : ∃ M, M = min (F + 32) n := ⟨_, rfl⟩
        have HMM := Lib.hid hM
        have hFM : F ≤ M ∧ M ≤ n := by omega
        have HMI := Lib.hid (show (if (n : Int) < (F : Int) + 32 then (n : Int) else (F : Int) + 32) = (M : Int) by split <;> omega)
        clear hb6 o6 hs6 hxs hxl hhl hM hgB
        obtain ⟨wo, hwo⟩ : ∃ wo : World, wo = wr := ⟨_, rfl⟩
        subst hwo
        go_wp2_with fail
        go_loopw [47] (fun cv wx => ∃ j : Nat, j ≤ ls.length ∧ cv = .int .i64 (j : Int) ∧ Hid (Blk wx gB 39 (prt xs ls.length j).toArray) ∧ Hid (Only [gB] w6 wx)) (fun cv _ => ls.length - (intOf cv).toNat)
        case atStart => exact ⟨0, Nat.zero_le _, rfl, HB6, Lib.hid (Only.refl _ _)⟩
        case round =>
          obtain ⟨j, hj, rfl, HBx, HOx⟩ := hrel
          have HOWx := Lib.hid (HOW.out.first HOx.out (by simp; exact hgBw))
          by_cases hjl : j < ls.length
          · obtain ⟨l, hl⟩ : ∃ l, ls[j]? = some l := ⟨_, List.getElem?_eq_getElem hjl⟩
            obtain ⟨b', off', Bl, cBl, hA, cl, _, hhs⟩ := (HP.out.then HOWx.out).at_ hl
            injection hA with hA
            injection hA with hA1 hA2
            subst hA1 hA2
            have hln := Hall.out l (List.mem_of_getElem? hl)
            have hcap := HP.out.cap j (Bl, cBl) l hhs hl
            rw [hln] at cl hcap
            have hcap' : n ≤ cBl := hcap
            have hV : xs[j]? = some (.slice (if cBl = F then Bl else Bl.map (·.add (F * 1))) (M - F) (cBl - F)) := by
              have h1 : (hs.map (cutH k))[j]? = some (cutH k (Bl, cBl)) := by rw [List.getElem?_map, hhs]; rfl
              rw [HXS.out]
              unfold rowsV
              rw [List.getElem?_zipWith, h1, bk_get hl]
              simp only [cutH, bk_row, hln]
              rw [HFK.out, HMM.out, HFK.out]
              congr 2
              omega
            obtain ⟨A6, hA6⟩ : ∃ A6 : Option Addr, A6 = (if cBl = F then Bl else Bl.map (·.add (F * 1))) := ⟨_, rfl⟩
            obtain ⟨L6, hL6⟩ : ∃ L6, L6 = M - F := ⟨_, rfl⟩
            obtain ⟨C6, hC6⟩ : ∃ C6, C6 = cBl - F := ⟨_, rfl⟩
            rw [← hA6, ← hL6, ← hC6] at hV
            have HA6 := Lib.hid hA6
            have HL6 := Lib.hid hL6
            have HC6 := Lib.hid hC6
            obtain ⟨s1, s2⟩ := HBx.out.set1 j (.slice A6 L6 C6)
            rw [prt_step HXL.out hjl hV] at s1
            have HBn := Lib.hid s1
            have HOn := Lib.hid (HOx.out.trans s2 (Fresh.refl _ _))
            have cB : wr.cell? ⟨gB, j, none⟩ = some (.slice none 0 0) := by rw [HBx.out.cell j]; simpa using prt_get HXL.out hjl
            have zB := HBx.out.frozen j
            have hji : (j : Int) < (ls.length : Int) := by omega
            clear hl hhs hln hcap hV hA6 hL6 hC6 s1 s2
            have tokm : True := trivial
            have toks : True := trivial
            go_wp2_with (first | (clear tokm; refine arm_min ((F : Int) + 32) (n : Int) (M : Int) HMI.out rfl rfl rfl rfl ?_) | (clear toks; refine arm_cut Try.underlying39 sz_i16 F M (by omega) (by omega) rfl rfl rfl rfl rfl ?_; rw [← HA6.out, ← HL6.out, ← HC6.out]))
            go_roundw
            case rel => exact ⟨j + 1, by omega, by go_num, HBn, HOn⟩
            case measure => simp [intOf]; omega
          · have hje : j = ls.length := by omega
            subst hje
            have hwr : wo.heap.size ≤ gB := by have := HGB.out; omega
            have HSx := Lib.hid (HS.out.then (HO6.out.first HOx.out (by simp; exact hwr)))
            have HPB := Lib.hid (show Calls Try.prog 21 #[.slice (some ⟨gB, 0, none⟩) ls.length ls.length] wr (PutC (bk ls k) wr) by
              have h1 := cut_pcm (k := k) (HP.out.then HOWx.out) Hall.out (by have := HFK.out; omega) (by have := HBx.out; rw [prt_end HXL.out, HXS.out] at this; exact this)
              have := putBlock_any wr (some ⟨gB, 0, none⟩) ls.length (hs.map (cutH k)) (bk ls k) h1 (by rw [bk_len]; exact hn) (fun l hl => by
                unfold bk at hl
                rw [List.mem_map] at hl
                obtain ⟨l', hl', rfl⟩ := hl
                have h2 := HM.out l' hl'
                exact ⟨by rw [bk_row]; omega, fun x hx => h2.2 x (List.mem_of_mem_drop (List.mem_of_mem_take hx))⟩)
              rwa [bk_len] at this)
            go_wp2_with fail
            refine HPB.out.mono ?_
            rintro e w7 ⟨A7, c7, rfl, r7, o7, _⟩
            rw [HPE.out]
            have HS7 := Lib.hid (HSx.out.then o7)
            have HR7 := Lib.hid r7
            have cl7 := HS7.out.cell
            have HST := Lib.hid (show encTo ls n (k + 1) = encTo ls n k ++ (PB (bk ls k)).1 from rfl)
            clear HPB r7 o7 HSx
            generalize (PB (bk ls k)).1 = q at HR7 HST hpl2 ⊢
            obtain ⟨el, hel⟩ : ∃ el, el = (encTo ls n k).length := ⟨_, rfl⟩
            rw [← hel] at HS7 cl7 hlk
            have HEL := Lib.hid (show el + q.length = (encTo ls n (k + 1)).length by rw [HST.out, List.length_append, hel])
            clear hel
            go_wp2_with (at_builtin; refine wpList_app _ rfl _ _ 22 rfl 5 i0 (.int .u8 0) 1 1 Try.underlying22 hi0 hz0 hz1 hz2 rfl (by decide) A el cA (bytesV (encTo ls n k)) rfl HS7.out.own A7 q.length c7 (bytesV q) rfl HR7.out (bytesV_one _) (by unfold maxLen; have := HFK.out; omega) (by have := HFK.out; omega) ?_)
            intro A8 c8 w8 own8 o8 f8
            have own8' : w8.ownsRow 0 5 1 (.slice A8 (el + q.length) c8) (el + q.length) (bytesV (encTo ls n (k + 1))) := by rw [HST.out, bytesV_append]; exact own8
            obtain ⟨c2x, z2x, S8⟩ := HS7.out.app h23 l1 own8' o8 f8
            rw [HEL.out] at S8 ⊢
            have HS8 := Lib.hid S8
            have HFn := Lib.hid (show F + 32 = 32 * (k + 1) by have := HFK.out; omega)
            have hkn : 32 * (k + 1) < n + 32 := by have := HFK.out; omega
            clear own8 own8' o8 f8 S8 cl7 HS7
            go_wp2_with fail
            go_roundw
            case rel => exact ⟨k + 1, F + 32, HFn, hkn, by go_num, A8, c8, HS8⟩
            case measure => simp [intOf]; omega
      · have hkn : nblk n = k := by unfold nblk; omega
        have hnF : decide ((F : Int) < (n : Int)) = false := decide_eq_false (by omega)
        have hnF' : (n : Int) ≤ (F : Int) := by omega
        rw [hkn] at HE
        have b2 := HS.out.b2
        have b3 := HS.out.b3
        have ho := HS.out.only
        have OWNx := HS.out.own
        have FPx := HS.out.fp
        have HOWN := Lib.hid OWNx
        have HFPx := Lib.hid FPx
        clear hlt hkn hFK OWNx FPx
        obtain ⟨el, hel⟩ : ∃ el, el = (encTo ls n k).length := ⟨_, rfl⟩
        rw [← hel] at b2 HOWN HFPx
        have HEL := Lib.hid hel
        clear hel HS
        have c2 : wr.cell? ⟨g2, 0, none⟩ = some (.slice A el cA) := b2.cell 0
        have z2 := b2.frozen 0
        obtain ⟨s1, s2⟩ := b2.set1 0 (.slice A el cA)
        have b3' := b3.far (p := ⟨g2, 0, none⟩) (Ne.symm h23) (.slice A el cA)
        have c3 : (wr.setCell ⟨g2, 0, none⟩ (.slice A el cA)).cell? ⟨g3, 0, none⟩ = some (.int .i64 0) := b3'.cell 0
        have z3 := b3'.frozen 0
        obtain ⟨t1, t2⟩ := b3'.set1 0 (.int .i64 0)
        have S1 := Lib.hid (s1.far (p := ⟨g3, 0, none⟩) h23 (.int .i64 0))
        have T1 := Lib.hid t1
        have HOx := Lib.hid ((ho.first s2 (by simp; exact l1)).first t2 (by simp; exact hg3))
        have HOy := Lib.hid (show Only [g2, g3] wr ((wr.setCell ⟨g2, 0, none⟩ (.slice A el cA)).setCell ⟨g3, 0, none⟩ (.int .i64 0)) from (s2.mono (by simp)).trans (t2.mono (by simp)) (Fresh.refl _ _))
        clear s1 s2 t1 t2 b3'
        go_wp2_with fail
        refine leaves_cons (f := 54) (args := #[.pointer (some ⟨g2, 0, none⟩), .pointer (some ⟨g3, 0, none⟩)]) (by simp) (by simp [go_sem]) ?_
        refine (encIdle ⟨g2, 0, none⟩ ⟨g3, 0, none⟩ _).mono ?_
        rintro e u' w'' ⟨rfl, rfl, rfl⟩
        refine ⟨_, resBE rfl S1.out T1.out rfl rfl, ?_⟩
        refine EncC.of HE.out HEL.out ((Reads.of_own HOWN.out).only HOy.out (fun _ ad he => ?_)) HOx.out (own_cap HOWN.out)
        subst he
        have := HFPx.out ad.block (by simp [rowFp, Value.ownBlock])
        simp; omega
end Go.Proofs.Ytmojlfgfaabegaa
