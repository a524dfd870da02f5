/- The reference's cut and Encode. -/
import Derived.Test.YtmojlfgfaabegaaA15
namespace Go.Proofs.Ytmojlfgfaabegaa
open Go.RowKit bt

section
variable {o : Oper} {a : Act} {w : World} {K : Act → World → Prop} {Q : Exit → Act → World → Prop} {X Y Z : Operand}
theorem op_min {ts : Array TypeId} (x y m : Int) (hm : (if y < x then y else x) = m) (ho : o.op = .call { callee := .builtin .min, args := #[X, Y], argTypes := ts }) (hx : a.eval X = .int .i64 x) (hy : a.eval Y = .int .i64 y)
    (k : K (a.put o.dst (.int .i64 m)) w) : o.wp Try.prog a w K Q := by
  unfold Oper.wp execOp
  simp only [ho, resolve, invoke, builtin, Sem.run_bind, Sem.run_pure, Result.andThen_ok, List.map_toArray, List.map_cons, List.map_nil, hx, hy, run_min_int2, hm]
  exact k
theorem op_cut {t e : TypeId} (ht : Try.prog.underlying t = some (.slice e)) (hs : (Try.prog.info? e).map (·.size) = some 1) {A : Option Addr} {n c : Nat} (j m : Nat) (h1 : j ≤ m) (h2 : m ≤ c) (ho : o.op = .slice t X (some Y) (some Z) none) (hx : a.eval X = .slice A n c)
    (hy : a.eval Y = .int .i64 (j : Int)) (hz : a.eval Z = .int .i64 (m : Int))
    (k : K (a.put o.dst (.slice (if c = j then A else A.map (·.add (j * 1))) (m - j) (c - j))) w) : o.wp Try.prog a w K Q := by
  unfold Oper.wp execOp
  simp only [ho, Option.map_some, Option.map_none, hx, hy, hz, Sem.run_bind, run_cut ht hs w A n c j m h1 h2, Result.andThen_ok]
  exact k
end
theorem own_pcm {w : World} {hs : List (Option Addr × Nat)} {ls : List (List Int)} {A B : Option Addr} {k n c m : Nat} (h : PcmIs w A hs ls) (hn : ∀ l ∈ ls, l.length = n) (hk : 32 * k < n) (hm : m = ls.length) (hb : w.ownsRow 0 39 1 (.slice B m c) m (rowsV (hs.map (cutH k)) (bk ls k))) :
    PcmIs w B (hs.map (cutH k)) (bk ls k) := by
  have hr := Reads.of_own hb
  rw [hm] at hr
  have h2 : ∀ gB, Blk w gB 39 (rowsV (hs.map (cutH k)) (bk ls k)).toArray → PcmIs w (some ⟨gB, 0, none⟩) (hs.map (cutH k)) (bk ls k) := fun gB hB => cut_pcm h hn hk hB
  refine ⟨by rw [bk_len, List.length_map, h.len], by rw [bk_len]; exact hr, ?_, ?_⟩
  · intro i x l h1 h2
    unfold bk at h2
    rw [List.getElem?_map] at h1 h2
    cases hx : hs[i]? with
    | none => rw [hx] at h1; cases h1
    | some x' =>
      cases hl : ls[i]? with
      | none => rw [hl] at h2; cases h2
      | some l' =>
        rw [hx] at h1
        rw [hl] at h2
        simp only [Option.map_some, Option.some.injEq] at h1 h2
        subst h1 h2
        have hln := hn l' (List.mem_of_getElem? hl)
        have := (h.each i x' l' hx hl).sub (j := 32 * k) (m := min (32 * k + 32) n) (c := x'.2) (by omega) (by omega) (h.cap i x' l' hx hl)
        rw [bk_row, hln, show min 32 (n - 32 * k) = min (32 * k + 32) n - 32 * k by omega]
        rw [cut_row (by omega)] at this
        exact this
  · intro i x l h1 h2
    unfold bk at h2
    rw [List.getElem?_map] at h1 h2
    cases hx : hs[i]? with
    | none => rw [hx] at h1; cases h1
    | some x' =>
      cases hl : ls[i]? with
      | none => rw [hl] at h2; cases h2
      | some l' =>
        rw [hx] at h1
        rw [hl] at h2
        simp only [Option.map_some, Option.some.injEq] at h1 h2
        subst h1 h2
        have := h.cap i x' l' hx hl
        rw [bk_row]
        unfold cutH
        simp only
        omega
set_option maxRecDepth 100000 in
set_option maxHeartbeats 4000000 in
theorem refCut_any (w : World) (P0 : Option Addr) (c : Nat) (hs : List (Option Addr × Nat)) (ls : List (List Int)) (h : PcmIs w P0 hs ls) (hl4 : ls.length ≤ 4) (n k F : Nat) (hF : F = 32 * k) (hall : ∀ l ∈ ls, l.length = n) (hk : 32 * k < n) (hnm : n ≤ 1048576) :
    Calls Try.prog 55 #[.slice P0 ls.length c, .int .i64 (F : Int), .int .i64 32] w fun e w' =>
      ∃ A' c', e = .returned (.slice A' ls.length c') ∧ PcmIs w' A' (hs.map (cutH k)) (bk ls k) ∧ Only [] w w' := by
  obtain ⟨i1, hi1, hy0, hy1, hy2⟩ := info_parts info_s16
  have HP := Lib.hid h
  have HFK := Lib.hid hF
  have Hall := Lib.hid hall
  have hhl : hs.length = ls.length := h.len
  obtain ⟨xs, hxs⟩ : ∃ xs, xs = rowsV (hs.map (cutH k)) (bk ls k) := ⟨_, rfl⟩
  have hxl : xs.length = ls.length := by rw [hxs]; simp [rowsV, bk_len, hhl]
  have HXS := Lib.hid hxs
  have HXL := Lib.hid hxl
  obtain ⟨M, hM⟩ : ∃ M, M = min (F + 32) n := ⟨_, rfl⟩
  have HMM := Lib.hid hM
  have hFM : F ≤ M ∧ M ≤ n := by omega
  have HMI := Lib.hid (show (if (n : Int) < (F : Int) + 32 then (n : Int) else (F : Int) + 32) = (M : Int) by split <;> omega)
  have HKN := Lib.hid hk
  clear h hF hall hxs hxl hhl hM hk
  go_enter Try.func55, Try.ntmps55
  go_wp2_with fail
  go_loopw [7, 8] (fun ov cv wr => ∃ j : Nat, j ≤ ls.length ∧ cv = .int .i64 (j : Int) ∧ ∃ A' c', ov = .slice A' j c' ∧ Hid (wr.ownsRow 0 39 1 (.slice A' j c') j (xs.take j)) ∧ Hid (Fresh w [] (rowFp (.slice A' j c'))) ∧ Hid (Only [] w wr)) (fun _ cv _ => ls.length - (intOf cv).toNat)
  case atStart => exact ⟨0, Nat.zero_le _, rfl, none, 0, rfl, Lib.hid (World.ownsRow_nil _ _ _ _), Lib.hid (by simp [Fresh, rowFp, Value.ownBlock]), Lib.hid (Only.refl _ _)⟩
  case round =>
    obtain ⟨j, hj, rfl, A', c', rfl, HOW, HF, HO⟩ := hrel
    by_cases hjl : j < ls.length
    · obtain ⟨l, hl⟩ : ∃ l, ls[j]? = some l := ⟨_, List.getElem?_eq_getElem hjl⟩
      obtain ⟨b, off, Bl, cBl, rfl, cl, _, hhs⟩ := HP.out.at_ hl
      have hln := Hall.out l (List.mem_of_getElem? hl)
      have hcap := HP.out.cap j (Bl, cBl) l hhs hl
      rw [hln] at cl hcap
      have hcap' : n ≤ cBl := hcap
      have hV : xs[j]? = some (.slice (if cBl = F then Bl else Bl.map (·.add (F * 1))) (M - F) (cBl - F)) := by
        have h1 : (hs.map (cutH k))[j]? = some (cutH k (Bl, cBl)) := by rw [List.getElem?_map, hhs]; rfl
        rw [HXS.out]
        unfold rowsV
        rw [List.getElem?_zipWith, h1, bk_get hl]
        simp only [cutH, bk_row, hln]
        rw [HFK.out, HMM.out, HFK.out]
        congr 2
        omega
      obtain ⟨A6, hA6⟩ : ∃ A6 : Option Addr, A6 = (if cBl = F then Bl else Bl.map (·.add (F * 1))) := ⟨_, rfl⟩
      obtain ⟨L6, hL6⟩ : ∃ L6, L6 = M - F := ⟨_, rfl⟩
      obtain ⟨C6, hC6⟩ : ∃ C6, C6 = cBl - F := ⟨_, rfl⟩
      rw [← hA6, ← hL6, ← hC6] at hV
      have HA6 := Lib.hid hA6
      have HL6 := Lib.hid hL6
      have HC6 := Lib.hid hC6
      have HTK := Lib.hid (show xs.take (j + 1) = xs.take j ++ [.slice A6 L6 C6] by rw [List.take_add_one, hV]; rfl)
      have hji : (j : Int) < (ls.length : Int) := by omega
      have fc0 : ∀ w', Cls w w' → w'.cell? ⟨b, off + j, none⟩ = some (.slice Bl n cBl) := fun w' h => h.cell cl
      clear hl hhs hln hcap hV hA6 hL6 hC6 cl
      go_wp2_with fail
      refine rgnM (Cls w) [(0, true), (1, true), (2, true), (3, true), (4, true), (5, true), (6, true), (7, true), (8, true), (9, true), (10, true), (11, true), (12, true), (13, true), (14, true), (15, true), (16, false), (17, false), (18, false)] (by kernel_rfl) (by kernel_rfl) HO.out.drew ?_
      simp only [pickL, nth]
      refine mW (.slice A' j c') rfl rfl (fun w hC K hK => ?_) rfl ?_
      · have fc := fc0 w hC; (go_wp2_with fail) <;> exact hK
      simp only [Act.put, List.setIfInBounds_toArray, List.set_cons_zero, List.set_cons_succ]
      refine mW (.slice (some ⟨b, off, none⟩) ls.length c) rfl rfl (fun w hC K hK => ?_) rfl ?_
      · have fc := fc0 w hC; (go_wp2_with fail) <;> exact hK
      simp only [Act.put, List.setIfInBounds_toArray, List.set_cons_zero, List.set_cons_succ]
      refine mW (.int .i64 (j : Int)) rfl rfl (fun w hC K hK => ?_) rfl ?_
      · have fc := fc0 w hC; (go_wp2_with fail) <;> exact hK
      simp only [Act.put, List.setIfInBounds_toArray, List.set_cons_zero, List.set_cons_succ]
      refine mW (.pointer (some ⟨b, off + j, none⟩)) rfl rfl (fun w hC K hK => ?_) rfl ?_
      · have fc := fc0 w hC; (go_wp2_with fail) <;> exact hK
      simp only [Act.put, List.setIfInBounds_toArray, List.set_cons_zero, List.set_cons_succ]
      refine mW (.slice Bl n cBl) rfl rfl (fun w hC K hK => ?_) rfl ?_
      · have fc := fc0 w hC; (go_wp2_with fail) <;> exact hK
      simp only [Act.put, List.setIfInBounds_toArray, List.set_cons_zero, List.set_cons_succ]
      refine mW (.int .i64 (F : Int)) rfl rfl (fun w hC K hK => ?_) rfl ?_
      · have fc := fc0 w hC; (go_wp2_with fail) <;> exact hK
      simp only [Act.put, List.setIfInBounds_toArray, List.set_cons_zero, List.set_cons_succ]
      refine mW (.int .i64 (F : Int)) rfl rfl (fun w hC K hK => ?_) rfl ?_
      · have fc := fc0 w hC; (go_wp2_with fail) <;> exact hK
      simp only [Act.put, List.setIfInBounds_toArray, List.set_cons_zero, List.set_cons_succ]
      refine mW (.int .i64 32) rfl rfl (fun w hC K hK => ?_) rfl ?_
      · have fc := fc0 w hC; (go_wp2_with fail) <;> exact hK
      simp only [Act.put, List.setIfInBounds_toArray, List.set_cons_zero, List.set_cons_succ]
      refine mW (.int .i64 ((F : Int) + 32)) rfl rfl (fun w hC K hK => ?_) rfl ?_
      · have fc := fc0 w hC; (go_wp2_with fail) <;> exact hK
      simp only [Act.put, List.setIfInBounds_toArray, List.set_cons_zero, List.set_cons_succ]
      refine mW (.slice (some ⟨b, off, none⟩) ls.length c) rfl rfl (fun w hC K hK => ?_) rfl ?_
      · have fc := fc0 w hC; (go_wp2_with fail) <;> exact hK
      simp only [Act.put, List.setIfInBounds_toArray, List.set_cons_zero, List.set_cons_succ]
      refine mW (.int .i64 (j : Int)) rfl rfl (fun w hC K hK => ?_) rfl ?_
      · have fc := fc0 w hC; (go_wp2_with fail) <;> exact hK
      simp only [Act.put, List.setIfInBounds_toArray, List.set_cons_zero, List.set_cons_succ]
      refine mW (.pointer (some ⟨b, off + j, none⟩)) rfl rfl (fun w hC K hK => ?_) rfl ?_
      · have fc := fc0 w hC; (go_wp2_with fail) <;> exact hK
      simp only [Act.put, List.setIfInBounds_toArray, List.set_cons_zero, List.set_cons_succ]
      refine mW (.slice Bl n cBl) rfl rfl (fun w hC K hK => ?_) rfl ?_
      · have fc := fc0 w hC; (go_wp2_with fail) <;> exact hK
      simp only [Act.put, List.setIfInBounds_toArray, List.set_cons_zero, List.set_cons_succ]
      refine mW (.int .i64 (n : Int)) rfl rfl (fun w hC K hK => ?_) rfl ?_
      · have fc := fc0 w hC; (go_wp2_with fail) <;> exact hK
      simp only [Act.put, List.setIfInBounds_toArray, List.set_cons_zero, List.set_cons_succ]
      refine mW (.int .i64 (M : Int)) rfl rfl (fun w hC K hK => ?_) rfl ?_
      · exact op_min ((F : Int) + 32) (n : Int) (M : Int) HMI.out rfl rfl rfl hK
      simp only [Act.put, List.setIfInBounds_toArray, List.set_cons_zero, List.set_cons_succ]
      refine mW (.slice A6 L6 C6) rfl rfl (fun w hC K hK => ?_) rfl ?_
      · refine op_cut Try.underlying39 sz_i16 F M (by omega) (by omega) rfl rfl rfl rfl ?_; rw [← HA6.out, ← HL6.out, ← HC6.out]; exact hK
      simp only [Act.put, List.setIfInBounds_toArray, List.set_cons_zero, List.set_cons_succ]
      refine mX ?_
      go_wp2_with fail
      have ox : Only [] wr (wr.alloc (.cells #[.slice A6 L6 C6] 39)).drew := ((Only.refl [] wr).alloc _).drew
      have rx : Reads (wr.alloc (.cells #[.slice A6 L6 C6] 39)).drew (some ⟨wr.heap.size, 0, none⟩) 1 1 [.slice A6 L6 C6] := Reads.one wr _ _
      refine mS (HO.out.then ox) ?_
      generalize (wr.alloc (.cells #[.slice A6 L6 C6] 39)).drew = wa at ox rx ⊢
      have hown := own_only HOW.out ox (by simp)
      refine mX ?_
      go_wp2_with (at_builtin; refine wpList_app _ rfl _ _ 28 rfl 39 i1 (.slice none 0 0) 1 24 Try.underlying28 hi1 hy0 hy1 hy2 rfl (by decide) A' j c' _ rfl hown _ 1 1 [.slice A6 L6 C6] rfl rx (by simp [Value.oneCell']) (by unfold maxLen; omega) (by omega) ?_)
      intro A9 c9 w9 own9 o9 f9
      have HOW9 := Lib.hid (show w9.ownsRow 0 39 1 (.slice A9 (j + 1) c9) (j + 1) (xs.take (j + 1)) by rw [HTK.out]; exact own9)
      have HO9 := Lib.hid ((HO.out.then ox).trans o9 HF.out)
      have HF9 := Lib.hid (HF.out.trans (HO.out.then ox).size f9)
      clear own9 o9 f9 hown ox rx HOW HF fc0
      refine mS HO9.out ?_
      refine mX ?_
      go_wp2_with fail
      refine mS HO9.out ?_
      refine mN ?_
      go_wp2_with fail
      go_roundw
      case rel => exact ⟨j + 1, by omega, by go_num, A9, c9, rfl, HOW9, HF9, HO9⟩
      case measure => simp [intOf]; omega
    · have hje : j = ls.length := by omega
      subst hje
      have HOW9 := Lib.hid (show wr.ownsRow 0 39 1 (.slice A' ls.length c') ls.length (rowsV (hs.map (cutH k)) (bk ls k)) by have := HOW.out; rw [show xs.take ls.length = xs by rw [← HXL.out, List.take_length], HXS.out] at this; exact this)
      clear HOW
      go_wp2_with fail
      go_ret
      exact ⟨A', c', rfl, own_pcm (HP.out.then HO.out) Hall.out HKN.out rfl HOW9.out, HO.out⟩
theorem EN_lt (ls : List (List Int)) : ∀ x ∈ (EN ls).1, x < 256 := by
  unfold EN
  split
  · rename_i h
    exact encTo_lt ls _ (pr_true.1 h).2.1 _
  · simp
theorem Reads.eight (w : World) (a b c d u v x y : Value) (e : TypeId) : Reads (w.alloc (.cells #[a, b, c, d, u, v, x, y] e)) (some ⟨w.heap.size, 0, none⟩) 1 8 [a, b, c, d, u, v, x, y] :=
  Reads.of_blk (Blk.new w e #[a, b, c, d, u, v, x, y]) 8 rfl
set_option maxRecDepth 100000 in
set_option maxHeartbeats 4000000 in
theorem refEncode_any (w : World) (P0 : Option Addr) (c : Nat) (hs : List (Option Addr × Nat)) (ls : List (List Int)) (h : PcmIs w P0 hs ls) (hn : ls.length ≤ 1099511627776) (hm : ∀ l ∈ ls, l.length ≤ 1099511627776 ∧ ∀ x ∈ l, -32768 ≤ x ∧ x ≤ 32767) :
    Calls Try.prog 27 #[.slice P0 ls.length c] w (EncC ls w) := by
  obtain ⟨i0, hi0, hz0, hz1, hz2⟩ := info_parts info_u8
  have HPR := Lib.hid (refProper_any w P0 c hs ls h hn (fun l hl => (hm l hl).1))
  have HP := Lib.hid h
  have HM := Lib.hid hm
  clear h hm
  go_enter Try.func27, Try.ntmps27
  go_wp2_with fail
  refine HPR.out.mono ?_
  rintro e w2 ⟨rfl, ho2⟩
  cases hp : pr ls 1048576 with
  | false =>
    have HE := Lib.hid (show EN ls = ([], 1) by unfold EN; rw [if_neg (by simp [hp])])
    clear hp
    go_wp2_with fail
    go_ret2
    exact EncC.of HE.out rfl Reads.none_ ho2 (Nat.le_refl _)
  | true =>
    obtain ⟨hl1, hl4, hall⟩ := pr_true.1 hp
    obtain ⟨l0, hl0⟩ : ∃ l0, ls[0]? = some l0 := ⟨_, List.getElem?_eq_getElem (by omega)⟩
    have hhd : ls.headD [] = l0 := head_get hl0
    have hl0m : l0.length ≤ 1048576 := by have := (hall l0 (List.mem_of_getElem? hl0)).2; omega
    obtain ⟨n, hnn⟩ : ∃ n, n = l0.length := ⟨_, rfl⟩
    rw [← hnn] at hl0m
    have Hall := Lib.hid (show ∀ l ∈ ls, l.length = n from fun l hl => by rw [(hall l hl).1, hhd, hnn])
    have HE := Lib.hid (show EN ls = (encTo ls n (nblk n), 0) by unfold EN; rw [if_pos hp, hhd, hnn])
    have HBK := Lib.hid (show ∀ k, 32 * k < n → pr (bk ls k) 32 = true ∧ ((bk ls k).headD []).length ≠ 0 from fun k hk => bk_ok hp (by rw [hhd, hnn]) hk)
    obtain ⟨b, off, B0, cB0, rfl, cl0, _, _⟩ := (HP.out.then ho2).at_ hl0
    rw [Nat.add_zero, ← hnn] at cl0
    have hz : (0 : Int) < (ls.length : Int) := by omega
    have HO := Lib.hid ho2
    have e1 : IntKind.u8.wrap (ls.length : Int) = (ls.length : Int) := by rw [IntKind.wrap_u8']; omega
    have e2 : IntKind.u8.wrap ((n : Int) / 65536) = ((n / 65536 % 256 : Nat) : Int) := by rw [IntKind.wrap_u8']; omega
    have e3 : IntKind.u8.wrap ((n : Int) / 256) = ((n / 256 % 256 : Nat) : Int) := by rw [IntKind.wrap_u8']; omega
    have e4 : IntKind.u8.wrap (n : Int) = ((n % 256 : Nat) : Int) := by rw [IntKind.wrap_u8']; omega
    have e2' : ((n : Int) / 65536) % 256 = ((n / 65536 % 256 : Nat) : Int) := by omega
    have e3' : ((n : Int) / 256) % 256 = ((n / 256 % 256 : Nat) : Int) := by omega
    have e4' : (n : Int) % 256 = ((n % 256 : Nat) : Int) := by omega
    have HH8 := Lib.hid (show hd8 ls.length n = [67, 82, 83, 68, ls.length, n / 65536 % 256, n / 256 % 256, n % 256] from rfl)
    obtain ⟨n1, hn1⟩ : ∃ n1, n1 = n / 65536 % 256 := ⟨_, rfl⟩
    obtain ⟨n2, hn2⟩ : ∃ n2, n2 = n / 256 % 256 := ⟨_, rfl⟩
    obtain ⟨n3, hn3⟩ : ∃ n3, n3 = n % 256 := ⟨_, rfl⟩
    rw [← hn1, ← hn2, ← hn3] at HH8
    rw [← hn1] at e2 e2'
    rw [← hn2] at e3 e3'
    rw [← hn3] at e4 e4'
    have R8 := Lib.hid (show Reads (w2.alloc (.cells #[.int .u8 67, .int .u8 82, .int .u8 83, .int .u8 68, .int .u8 (ls.length : Int), .int .u8 (n1 : Int), .int .u8 (n2 : Int), .int .u8 (n3 : Int)] 5)) (some ⟨w2.heap.size, 0, none⟩) 1 (hd8 ls.length n).length (bytesV (hd8 ls.length n)) by rw [HH8.out]; exact Reads.eight w2 _ _ _ _ _ _ _ _ _)
    have HOA := Lib.hid (show Only [] w (w2.alloc (.cells #[.int .u8 67, .int .u8 82, .int .u8 83, .int .u8 68, .int .u8 (ls.length : Int), .int .u8 (n1 : Int), .int .u8 (n2 : Int), .int .u8 (n3 : Int)] 5)) from ho2.alloc _)
    clear hp hall hl0 hhd hnn ho2 hn1 hn2 hn3
    go_wp2_with fail
    generalize w2.alloc (.cells #[.int .u8 67, .int .u8 82, .int .u8 83, .int .u8 68, .int .u8 (ls.length : Int), .int .u8 (n1 : Int), .int .u8 (n2 : Int), .int .u8 (n3 : Int)] 5) = wa at R8 HOA ⊢
    refine (summed_any _ (some ⟨w2.heap.size, 0, none⟩) 8 (hd8 ls.length n) R8.out (hd8_lt hl4) (by simp [hd8])).mono ?_
    rintro e w5 ⟨A5, c5, rfl, own5, o5, f5⟩
    have HOW5 := Lib.hid own5
    have HO5 := Lib.hid (HOA.out.then o5)
    have HF5 := Lib.hid (show Fresh w [] (rowFp (.slice A5 ((hd8 ls.length n).length + 2) c5)) from fun x hx => by
      rcases f5 x hx with h | h
      · cases h
      · exact .inr (by have := HOA.out.size; omega))
    have HLN := Lib.hid (show ∀ k, (encTo ls n k).length ≤ 10 + 151 * k from encTo_len ls n hl4)
    clear own5 o5 f5 e1 e2 e3 e4 e2' e3' e4' R8 HH8 cl0
    go_wp2_with fail
    go_loopw [5, 6] (fun ov fv wr => ∃ k F : Nat, Hid (F = 32 * k) ∧ (32 * k < n + 32) ∧ fv = .int .i64 (F : Int) ∧ ∃ A c, ov = .slice A (encTo ls n k).length c ∧ Hid (wr.ownsRow 0 5 1 (.slice A (encTo ls n k).length c) (encTo ls n k).length (bytesV (encTo ls n k))) ∧ Hid (Fresh w [] (rowFp (.slice A (encTo ls n k).length c))) ∧ Hid (Only [] w wr)) (fun _ fv _ => n + 32 - (intOf fv).toNat)
    case atStart => exact ⟨0, 0, Lib.hid rfl, by omega, rfl, A5, c5, by rfl, Lib.hid HOW5.out, Lib.hid HF5.out, HO5⟩
    case round =>
      obtain ⟨k, F, HFK, hk, rfl, A, cA, rfl, HOW, HF, HO6⟩ := hrel
      have hFK := HFK.out
      by_cases hlt : F < n
      · have hFn : (F : Int) < (n : Int) := by omega
        have hlk := HLN.out k
        obtain ⟨hbk1, hbk2⟩ := HBK.out k (by omega)
        obtain ⟨hpl, hpe⟩ := PB_len' ⟨hbk1, hbk2⟩
        rw [bk_len] at hpl
        have HPE := Lib.hid hpe
        have hpl2 : (PB (bk ls k)).1.length ≤ 151 := by omega
        have HKN := Lib.hid (show 32 * k < n by omega)
        clear hbk1 hbk2 hpl hpe hFK
        go_wp2_with fail
        refine (refCut_any _ _ c hs ls (HP.out.then HO6.out) hl4 n k F HFK.out Hall.out HKN.out hl0m).mono ?_
        rintro e w7 ⟨A7, c7, rfl, p7, o7⟩
        have HPB := Lib.hid (show Calls Try.prog 22 #[.slice A7 ls.length c7] w7 (PutC (bk ls k) w7) by
          have := refPutBlock_any w7 A7 c7 (hs.map (cutH k)) (bk ls k) p7 (by rw [bk_len]; exact hn) (fun l hl => by
            unfold bk at hl
            rw [List.mem_map] at hl
            obtain ⟨l', hl', rfl⟩ := hl
            have h2 := HM.out l' hl'
            exact ⟨by rw [bk_row]; omega, fun x hx => h2.2 x (List.mem_of_mem_drop (List.mem_of_mem_take hx))⟩)
          rwa [bk_len] at this)
        have HO7 := Lib.hid (HO6.out.then o7)
        have HOW7 := Lib.hid (own_only HOW.out o7 (by simp))
        clear p7 o7 HOW HO6
        go_wp2_with fail
        refine HPB.out.mono ?_
        rintro e w8 ⟨A8, c8, rfl, r8, o8, _⟩
        rw [HPE.out]
        have hown8 := own_only HOW7.out o8 (by simp)
        have HR8 := Lib.hid r8
        have HO8 := Lib.hid (HO7.out.then o8)
        have HST := Lib.hid (show encTo ls n (k + 1) = encTo ls n k ++ (PB (bk ls k)).1 from rfl)
        clear HPB r8 o8 HO7 HOW7
        generalize (PB (bk ls k)).1 = q at HR8 HST hpl2 ⊢
        obtain ⟨el, hel⟩ : ∃ el, el = (encTo ls n k).length := ⟨_, rfl⟩
        rw [← hel] at hown8 hlk HF ⊢
        have HEL := Lib.hid (show el + q.length = (encTo ls n (k + 1)).length by rw [HST.out, List.length_append, hel])
        have HOWN8 := Lib.hid hown8
        clear hel hown8
        go_wp2_with (at_builtin; refine wpList_app _ rfl _ _ 22 rfl 5 i0 (.int .u8 0) 1 1 Try.underlying22 hi0 hz0 hz1 hz2 rfl (by decide) A el cA (bytesV (encTo ls n k)) rfl HOWN8.out A8 q.length c8 (bytesV q) rfl HR8.out (bytesV_one _) (by unfold maxLen; have := HFK.out; omega) (by have := HFK.out; omega) ?_)
        intro A9 c9 w9 own9 o9 f9
        have own9' : w9.ownsRow 0 5 1 (.slice A9 (el + q.length) c9) (el + q.length) (bytesV (encTo ls n (k + 1))) := by rw [HST.out, bytesV_append]; exact own9
        have hf9 := HF.out.trans HO8.out.size f9
        rw [HEL.out] at own9' hf9 ⊢
        have HOW9 := Lib.hid own9'
        have HO9 := Lib.hid (HO8.out.trans o9 HF.out)
        have HF9 := Lib.hid hf9
        have HFn := Lib.hid (show F + 32 = 32 * (k + 1) by have := HFK.out; omega)
        have hkn : 32 * (k + 1) < n + 32 := by have := HFK.out; omega
        clear own9 own9' o9 f9 hf9 HOWN8 HO8 HF
        go_wp2_with fail
        go_roundw
        case rel => exact ⟨k + 1, F + 32, HFn, hkn, by go_num, A9, c9, rfl, HOW9, HF9, HO9⟩
        case measure => simp [intOf]; omega
      · have hkn : nblk n = k := by unfold nblk; omega
        have hnF : decide ((F : Int) < (n : Int)) = false := decide_eq_false (by omega)
        have hnF' : (n : Int) ≤ (F : Int) := by omega
        rw [hkn] at HE
        clear hlt hkn hFK
        go_wp2_with fail
        go_ret2
        exact EncC.of HE.out rfl (Reads.of_own HOW.out) HO6.out (own_cap HOW.out)
end Go.Proofs.Ytmojlfgfaabegaa
