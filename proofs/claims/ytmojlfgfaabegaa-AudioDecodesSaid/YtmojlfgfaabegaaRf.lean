/- Contracts of the reference of chapter 2: May, Bits, SameBytes, Payload. -/
import Derived.Test.YtmojlfgfaabegaaRt
import Derived.Laws.BytesArg
namespace Go.Proofs.Ytmojlfgfaabegaa
open Go.RowKit bt

/-- Bits as bytes 0 and 1. -/
def flat (l : List Bool) : List Nat := l.map Bool.toNat
theorem flat_lt (l : List Bool) : ∀ x ∈ flat l, x < 256 := by
  intro x hx
  simp only [flat, List.mem_map] at hx
  obtain ⟨b, _, rfl⟩ := hx
  cases b <;> decide
theorem flat_append (l m : List Bool) : flat (l ++ m) = flat l ++ flat m := by simp [flat]
theorem bytesV_append (l m : List Nat) : bytesV (l ++ m) = bytesV l ++ bytesV m := by simp [bytesV]
theorem bytesV_length (l : List Nat) : (bytesV l).length = l.length := by simp [bytesV]
theorem flat_length (l : List Bool) : (flat l).length = l.length := by simp [flat]

set_option maxHeartbeats 1000000 in
theorem refBits_any (w : World) (v n : Nat) (hv : v < 4294967296) (hn : n ≤ 32) :
    Calls Try.prog 51 #[.int .u32 (v : Int), .int .i64 (n : Int)] w fun e w' =>
      ∃ A c, e = .returned (.slice A n c) ∧ w'.ownsRow 0 5 1 (.slice A n c) n (bytesV (flat (bitsOf v n))) ∧ Only [] w w' ∧ Fresh w [] (rowFp (.slice A n c)) := by
  obtain ⟨i0, hi0, hz0, hz1, hz2⟩ := info_parts info_u8
  go_enter Try.func51, Try.ntmps51
  go_wp2
  go_loopw [5, 6] (fun s i wr => ∃ k : Nat, k ≤ n ∧ i = .int .i64 ((n : Int) - 1 - (k : Int)) ∧ ∃ A c, s = .slice A k c ∧ wr.ownsRow 0 5 1 (.slice A k c) k (bytesV (flat ((bitsOf v n).take k))) ∧ Only [] w wr ∧ Fresh w [] (rowFp (.slice A k c))) (fun _ i _ => (intOf i + 1).toNat)
  case atStart => exact ⟨0, Nat.zero_le _, by simp, none, 0, rfl, World.ownsRow_nil _ _ _ _, Only.refl _ _, by simp [Fresh, rowFp, Value.ownBlock]⟩
  case round =>
    obtain ⟨k, hk, rfl, A, c, rfl, hown, ho, hf⟩ := hrel
    by_cases hlt : k < n
    · have hge : (0 : Int) ≤ (n : Int) - 1 - (k : Int) := by omega
      have e1 : ((n : Int) - 1 - (k : Int)).toNat = n - 1 - k := by omega
      go_wp2_with (at_builtin; refine wpList_app _ rfl _ _ 22 rfl 5 i0 (.int .u8 0) 1 1 Try.underlying22 hi0 hz0 hz1 hz2 rfl (by decide) _ _ _ _ rfl (hown.alloc _) _ 1 1 [.int .u8 _] rfl (Reads.one _ _ _) ?c2 ?c3 ?c4 ?_)
      case c2 => intro u hu; simp at hu; subst hu; rfl
      case c3 => unfold maxLen; omega
      case c4 => omega
      intro A' c' w1 hown1 ho1 hf1
      go_wp2
      go_roundw
      case rel =>
        refine ⟨k + 1, by omega, by go_num, A', c', rfl, ?_, ?_, ?_⟩
        · rw [put_bit v _ hv] at hown1
          rw [bitsOf_snoc v n k hlt, flat_append, bytesV_append]
          exact hown1
        · exact (ho.alloc _).trans ho1 hf
        · exact hf.trans (ho.alloc _).size hf1
      case measure => simp [intOf]; omega
    · go_wp2
      go_ret
      obtain rfl : k = n := by omega
      rw [List.take_of_length_le (by simp [bitsOf])] at hown
      exact ⟨A, c, rfl, hown, ho, hf⟩

/-- Bytes as a string. -/
def strOf (p : List Nat) : ByteArray := strOfNums (p.map (fun (n : Nat) => (n : Int)))
theorem strOf_toList (p : List Nat) : (strOf p).toList = p.map UInt8.ofNat := by
  rw [ByteArray.toList_eq]
  unfold strOf
  rw [strOfNums_data]
  simp
theorem ofNat_inj : ∀ (p q : List Nat), (∀ x ∈ p, x < 256) → (∀ x ∈ q, x < 256) → p.map UInt8.ofNat = q.map UInt8.ofNat → p = q
  | [], [], _, _, _ => rfl
  | [], _ :: _, _, _, h => by simp at h
  | _ :: _, [], _, _, h => by simp at h
  | a :: p, b :: q, hp, hq, h => by
    simp only [List.map_cons, List.cons.injEq] at h
    have ha := hp a (by simp)
    have hb := hq b (by simp)
    have h1 : a = b := by
      have := congrArg UInt8.toNat h.1
      simp only [UInt8.toNat_ofNat'] at this
      omega
    rw [h1, ofNat_inj p q (fun x hx => hp x (by simp [hx])) (fun x hx => hq x (by simp [hx])) h.2]
theorem run_conv {w : World} {A : Option Addr} {n c : Nat} {p : List Nat} (hr : Reads w A 1 n (bytesV p)) :
    (convert 22 9 (.slice A n c)).run Try.prog w = .ok (.string (strOf p)) w := by
  have hpl : p.length = n := by have := hr.1; simpa [bytesV] using this
  rcases Nat.eq_zero_or_pos n with h0 | h0
  · subst h0
    obtain rfl : p = [] := List.eq_nil_of_length_eq_zero hpl
    rw [run_convert_bytes_string w 22 9 5 A 0 c Try.underlying22 Try.underlying5 Try.underlying9]
    cases A with
    | none => simp [Conv.bytesToString, strOf, strOfNums]; rfl
    | some a => rw [run_bytesToString w a 0 c [] (by simpa using run_loadCells_list (P := Try.prog) w a [] (by simp))]; rfl
  · obtain ⟨ad, rfl, hc⟩ := hr.2 h0
    rw [run_convert_bytes_string w 22 9 5 _ n c Try.underlying22 Try.underlying5 Try.underlying9]
    have hl := run_loadCells_list (P := Try.prog) w ad (bytesV p) hc
    rw [bytesV_length, hpl] at hl
    rw [run_bytesToString w ad n c (p.map (fun (n : Nat) => (n : Int))) (by rw [hl]; simp [bytesV]), foldl_push_bytes]
    simp [strOf, strOfNums, ByteArray.empty, ByteArray.emptyWithCapacity]
    rfl

theorem same_any (w : World) (A B : Option Addr) (n m c d : Nat) (p q : List Nat) (ha : Reads w A 1 n (bytesV p)) (hb : Reads w B 1 m (bytesV q)) (hp : ∀ x ∈ p, x < 256) (hq : ∀ x ∈ q, x < 256) :
    Calls Try.prog 23 #[.slice A n c, .slice B m d] w fun e w' => e = .returned (.bool (decide (p = q))) ∧ w = w' := by
  have h1 := run_conv (c := c) ha
  have h2 := run_conv (c := d) hb
  have h3 : ((strOf p).toList == (strOf q).toList) = decide (p = q) := by
    rw [strOf_toList, strOf_toList, Bool.eq_iff_iff]
    simp only [beq_iff_eq, decide_eq_true_eq]
    exact ⟨ofNat_inj p q hp hq, fun h => by rw [h]⟩
  have H3 := Lib.hid h3
  clear h3 hp hq ha hb
  go_enter Try.func23, Try.ntmps23
  go_wp2
  go_ret
  exact ⟨congrArg (fun b => Ending.returned (.bool b)) H3.out, rfl⟩

/-- The row of the reference's Payload behind i rounds. -/
def refRow (l : List Bool) (i : Nat) : List Nat := (List.range (l.length / 8 + 1)).map (byteAt ((l ++ [true]).take i))
theorem refRow_zero (l : List Bool) : (bytesV (refRow l 0)).toArray = Array.replicate (l.length / 8 + 1) (.int .u8 0) := by
  apply Array.ext
  · simp [bytesV, refRow]
  · intro i h1 h2
    simp [bytesV, refRow, byteAt_past]
theorem refRow_end (l : List Bool) : refRow l (l.length + 1) = payload l := by
  unfold refRow payload pack
  rw [List.take_of_length_le (by simp)]
  congr 2
  simp only [List.length_append, List.length_cons, List.length_nil]
  omega
theorem refRow_off (l : List Bool) (i : Nat) (h : i ≤ l.length) (hb : (l ++ [true])[i]? = some false) : refRow l (i + 1) = refRow l i := by
  unfold refRow
  apply List.map_congr_left
  intro j _
  apply byteAt_congr
  intro k _
  simp only [List.getD_eq_getElem?_getD, List.take_add_one, hb, Option.toList_some]
  by_cases h1 : 8 * j + k < i
  · rw [List.getElem?_append_left (by simp; omega)]
  · rw [List.getElem?_append_right (by simp; omega), List.getElem?_eq_none (l := (l ++ [true]).take i) (by simp; omega)]
    cases h2 : 8 * j + k - (List.take i (l ++ [true])).length with
    | zero => rfl
    | succ n => rfl
theorem refRow_on (l : List Bool) (i : Nat) (h : i ≤ l.length) (hb : (l ++ [true])[i]? = some true) :
    bytesV (refRow l (i + 1)) = (bytesV (refRow l i)).set (i / 8) (.int .u8 (bits BinOp.or IntKind.u8 (byteAt ((l ++ [true]).take i) (i / 8) : Int) (128 / 2 ^ (i % 8)))) := by
  have hl : ((l ++ [true]).take i).length = i := by simp; omega
  have hm := mark_byte ((l ++ [true]).take i)
  rw [hl] at hm
  have e : (l ++ [true]).take (i + 1) = (l ++ [true]).take i ++ [true] := by rw [List.take_add_one, hb]; rfl
  rw [hm]
  apply List.ext_getElem
  · simp [bytesV, refRow]
  · intro j h1 h2
    simp only [bytesV, refRow, List.getElem_map, List.getElem_range, List.getElem_set, e]
    split
    · rename_i hj; rw [hj]
    · rename_i hj
      congr 1
      have : byteAt ((l ++ [true]).take i ++ [true]) j = byteAt ((l ++ [true]).take i) j := by
        by_cases h3 : j < i / 8
        · exact byteAt_append (by omega)
        · apply byteAt_congr
          intro k hk
          simp only [List.getD_eq_getElem?_getD]
          rw [List.getElem?_append_right (by omega), List.getElem?_eq_none (l := (l ++ [true]).take i) (by omega), List.getElem?_eq_none (by simp; omega)]
      rw [this]

set_option maxHeartbeats 1000000 in
theorem refPayload_any (w : World) (A : Option Addr) (c : Nat) (l : List Bool) (hr : Reads w A 1 l.length (bytesV (flat l))) (hl : l.length ≤ 1099511627776) :
    Calls Try.prog 52 #[.slice A l.length c] w fun e w' => e = .returned (.slice (some ⟨w.heap.size, 0, none⟩) (l.length / 8 + 1) (l.length / 8 + 1)) ∧ Blk w' w.heap.size 5 (bytesV (payload l)).toArray ∧ Only [] w w' := by
  obtain ⟨i0, hi0, hz0, hz1, hz2⟩ := info_parts info_u8
  go_enter Try.func52, Try.ntmps52
  go_wp2_with (at_make; refine wpList_mk _ rfl _ _ 22 rfl 5 i0 (.int .u8 0) Try.underlying22 hi0 hz0 hz1 rfl _ _ _ _ (l.length / 8 + 1) rfl rfl (by omega) (by omega) (by rw [hz2]; omega) (by unfold maxLen; omega) ?_)
  intro w1 hb1 ho1 hs1
  rw [← refRow_zero] at hb1
  have hr1 := hr.then ho1
  have hr0 := hr
  have Hs1 := Lib.hid hs1
  clear hs1 hr
  go_wp2
  go_loopw [4] (fun i wr => ∃ k : Nat, k ≤ l.length + 1 ∧ i = .int .i64 k ∧ Blk wr w.heap.size 5 (bytesV (refRow l k)).toArray ∧ Reads wr A 1 l.length (bytesV (flat l)) ∧ Only [] w wr) (fun i _ => l.length + 1 - (intOf i).toNat)
  case atStart => exact ⟨0, Nat.zero_le _, rfl, hb1, hr1, ho1⟩
  case round =>
    obtain ⟨k, hk, rfl, hb, hrd, ho⟩ := hrel
    by_cases hle : k ≤ l.length
    · have hx := hb.cell (k / 8)
      have hxf := hb.frozen (k / 8)
      have hxe : (bytesV (refRow l k)).toArray[k / 8]? = some (.int .u8 (byteAt ((l ++ [true]).take k) (k / 8) : Int)) := by
        simp only [List.getElem?_toArray, bytesV, refRow, List.getElem?_map]
        rw [List.getElem?_range (by omega)]; rfl
      rw [hxe] at hx
      have hl1 : (k : Int) / 8 < ((l.length / 8 + 1 : Nat) : Int) := by omega
      have hl2 : (0 : Int) ≤ (k : Int) / 8 := by omega
      clear hxe
      have on : (l ++ [true])[k]? = some true → Blk (wr.setCell ⟨w.heap.size, k / 8, none⟩ (.int .u8 (bits BinOp.or IntKind.u8 (byteAt ((l ++ [true]).take k) (k / 8) : Int) (128 / 2 ^ (k % 8))))) w.heap.size 5 (bytesV (refRow l (k + 1))).toArray := by
        intro h
        rw [refRow_on l k hle h]
        have := hb.set_ (k / 8) (.int .u8 (bits BinOp.or IntKind.u8 (byteAt ((l ++ [true]).take k) (k / 8) : Int) (128 / 2 ^ (k % 8))))
        simpa using this
      have On := Lib.hid on
      have ho' := fun u => ho.setCell (p := ⟨w.heap.size, k / 8, none⟩) (.inr (Nat.le_refl _)) u
      have Ho' := Lib.hid ho'
      have hrd' : ∀ u, Reads (wr.setCell ⟨w.heap.size, k / 8, none⟩ u) A 1 l.length (bytesV (flat l)) := fun u => hr0.then (ho' u)
      have Hrd' := Lib.hid hrd'
      clear on ho' hrd'
      by_cases heq : k = l.length
      · have hq : ((k : Int) == (l.length : Int)) = true := by simp; omega
        have Heq := Lib.hid heq
        clear heq
        go_wp2
        go_roundw
        case rel => exact ⟨k + 1, by omega, by go_num, On.out (by have := Heq.out; subst this; simp), Hrd'.out _, Ho'.out _⟩
        case measure => simp [intOf]; omega
      · obtain ⟨ad, u, rfl, hu, hc⟩ := hrd.at_ (k := k) (by omega)
        have hq : ((k : Int) == (l.length : Int)) = false := by simp; omega
        have hkl : (k : Int) < (l.length : Int) := by omega
        obtain ⟨b, hb'⟩ : ∃ b, l[k]? = some b := ⟨_, List.getElem?_eq_getElem (by omega)⟩
        obtain rfl : u = .int .u8 (b.toNat : Int) := by
          simp only [bytesV, flat, List.getElem?_map, hb'] at hu
          simpa using hu.symm
        have hb2 : (l ++ [true])[k]? = some b := by rw [List.getElem?_append_left (by omega), hb']
        have Hb2 := Lib.hid hb2
        clear hu hb' hb2
        cases b with
        | true =>
          go_wp2
          go_roundw
          case rel => exact ⟨k + 1, by omega, by go_num, On.out Hb2.out, Hrd'.out _, Ho'.out _⟩
          case measure => simp [intOf]; omega
        | false =>
          go_wp2
          go_roundw
          case rel => exact ⟨k + 1, by omega, by go_num, by rw [refRow_off l k hle Hb2.out]; exact hb, hrd, ho⟩
          case measure => simp [intOf]; omega
    · go_wp2
      go_ret
      obtain rfl : k = l.length + 1 := by omega
      rw [refRow_end] at hb
      exact ⟨rfl, hb, ho⟩
end Go.Proofs.Ytmojlfgfaabegaa
