/- Contracts of the writer's methods: NewWriter, Len, Put, Payload. -/
import Derived.Test.YtmojlfgfaabegaaProg
import Derived.Test.YtmojlfgfaabegaaBase
import Derived.Test.YtmojlfgfaabegaaBits
import Derived.StillTailTactics
import Derived.BigRegion
import Derived.RegionTactic
import Derived.BigQuiet
import Derived.Deep.QuietTactic
namespace Go.Proofs.Ytmojlfgfaabegaa
open Go.RowKit bt

theorem info_u8 : (Try.prog.info? 5).map (fun i => (i.zero, i.size, i.bytes)) = some (some (.int .u8 0), 1, 1) := by kernel_rfl

/-- The cells of some bytes. -/
def bytesV (l : List Nat) : List Value := l.map fun (b : Nat) => .int .u8 (b : Int)

/-- At block g there is a writer of the bits l; F: the blocks that are its own. -/
def WriterIs (w : World) (g : Nat) (F : List Nat) (l : List Bool) : Prop :=
  ∃ A c, Blk w g 76 #[.slice A ((l.length + 7) / 8) c, .int .i64 (l.length : Int)] ∧ w.ownsRow 0 5 1 (.slice A ((l.length + 7) / 8) c) ((l.length + 7) / 8) (bytesV (pack l)) ∧ F = g :: rowFp (.slice A ((l.length + 7) / 8) c)

theorem newWriter_any (w : World) : Calls Try.prog 44 #[] w fun e w' => e = .returned (.pointer (some ⟨w.heap.size, 0, none⟩)) ∧ WriterIs w' w.heap.size [w.heap.size] [] ∧ Only [] w w' := by
  go_enter Try.func44, Try.ntmps44
  go_wp2
  go_ret
  refine ⟨rfl, ⟨none, 0, Blk.new _ _ _, ?_, rfl⟩, (Only.refl _ _).alloc _⟩
  exact World.ownsRow_nil _ _ _ _

/-- The bit that is put, as the walk has it. -/
theorem put_bit (v j : Nat) (hv : v < 4294967296) : (bits BinOp.and IntKind.u32 ((v : Int) / 2 ^ j) 1 % 256) = ((v.testBit j).toNat : Int) := by
  have e : ((v : Int) / 2 ^ j) = ((v / 2 ^ j : Nat) : Int) := by simp
  have hle : v / 2 ^ j ≤ v := Nat.div_le_self _ _
  rw [e, show (1 : Int) = ((1 : Nat) : Int) from rfl, u32_and_nat _ _ (by omega) (by omega), Nat.and_one_is_mod]
  have ht : v.testBit j = decide (v / 2 ^ j % 2 = 1) := Nat.testBit_eq_decide_div_mod_eq
  have h2 : v / 2 ^ j % 2 < 2 := Nat.mod_lt _ (by omega)
  rw [ht]
  by_cases h : v / 2 ^ j % 2 = 1
  · rw [h]; simp
  · have : v / 2 ^ j % 2 = 0 := by omega
    rw [this]; simp
theorem put_byte (m : List Bool) (b : Bool) : bits BinOp.or IntKind.u8 (byteAt m (m.length / 8) : Int) ((b.toNat : Int) * 2 ^ (7 - m.length % 8) % 256) = (byteAt (m ++ [b]) (m.length / 8) : Int) := by
  have hb : b.toNat < 2 := by cases b <;> decide
  have h2 : b.toNat * 2 ^ (7 - m.length % 8) < 256 := by
    have h7 : 2 ^ (7 - m.length % 8) ≤ 2 ^ 7 := Nat.pow_le_pow_right (by omega) (by omega)
    have : b.toNat * 2 ^ (7 - m.length % 8) ≤ 1 * 2 ^ 7 := Nat.mul_le_mul (by omega) h7
    omega
  have e : ((b.toNat : Int) * 2 ^ (7 - m.length % 8) % 256) = ((b.toNat * 2 ^ (7 - m.length % 8) : Nat) : Int) := by
    have e1 : ((b.toNat : Int) * 2 ^ (7 - m.length % 8)) = ((b.toNat * 2 ^ (7 - m.length % 8) : Nat) : Int) := by simp
    rw [e1]; omega
  rw [e, u8_or_nat _ _ (byteAt_lt _ _) h2, byteAt_snoc, Nat.shiftLeft_eq]
/-- What a round of Put leaves. -/
theorem writer_step {w2 : World} {g r n1 cap : Nat} {m : List Bool} {b : Bool} {xs : List Value} {x : Int} (hn1 : n1 = m.length / 8 + 1)
    (hb2 : Blk w2 g 76 #[.slice (some ⟨r, 0, none⟩) n1 cap, .int .i64 (m.length : Int)]) (hown2 : w2.ownsRow 0 5 1 (.slice (some ⟨r, 0, none⟩) n1 cap) n1 xs)
    (hxs : xs = bytesV ((List.range (m.length / 8 + 1)).map (byteAt m))) (hx : x = (byteAt (m ++ [b]) (m.length / 8) : Int)) :
    WriterIs ((w2.setCell ⟨r, m.length / 8, none⟩ (.int .u8 x)).setCell ⟨g, 1, none⟩ (.int .i64 ((m.length : Int) + 1))).drew g [g, r] (m ++ [b]) ∧
    Only [g, r] w2 ((w2.setCell ⟨r, m.length / 8, none⟩ (.int .u8 x)).setCell ⟨g, 1, none⟩ (.int .i64 ((m.length : Int) + 1))).drew := by
  have hrg : r ≠ g := by have := own_blk_ne hown2 hb2 (by decide); simpa [Value.ownBlock] using this
  have hl : ((m ++ [b]).length + 7) / 8 = n1 := by rw [hn1]; simp; omega
  have h1 := (hown2.stored (m.length / 8) (.int .u8 x)).1
  have h2 : Blk (w2.setCell ⟨r, m.length / 8, none⟩ (.int .u8 x)) g _ _ := hb2.far (p := ⟨r, m.length / 8, none⟩) (Ne.symm hrg) _
  have h3 := h2.set_ 1 (.int .i64 ((m.length : Int) + 1))
  have h4 := own_only h1 (((Only.refl [g] _).setCell (p := ⟨g, 1, none⟩) (.inl (by simp)) (.int .i64 ((m.length : Int) + 1)))) (by simp [rowFp, Value.ownBlock, hrg])
  refine ⟨⟨some ⟨r, 0, none⟩, cap, ?_, ?_, ?_⟩, ?_⟩
  · rw [hl]
    have h5 := h3.drew
    simp only [List.setIfInBounds_toArray, List.set_cons_succ, List.set_cons_zero] at h5
    simpa using h5
  · rw [hl]
    have e : bytesV (pack (m ++ [b])) = xs.set (m.length / 8) (.int .u8 x) := by
      rw [pack_snoc, hxs, hx]; simp [bytesV, List.map_set]
    rw [e]; exact h4
  · simp [rowFp, Value.ownBlock]
  · exact (((Only.refl _ _).setCell (p := ⟨r, m.length / 8, none⟩) (.inl (by simp)) _).setCell (p := ⟨g, 1, none⟩) (.inl (by simp)) _).drew

set_option maxHeartbeats 1000000 in
theorem put_ok (w : World) (g : Nat) (F : List Nat) (l : List Bool) (v n : Nat) (h : WriterIs w g F l) (hn : n ≤ 32) (hv : v < 2 ^ n) (hl : l.length ≤ 1099511627776) :
    Calls Try.prog 46 #[.pointer (some ⟨g, 0, none⟩), .int .u32 (v : Int), .int .i64 (n : Int)] w fun e w' => e = .returned (.int .i64 0) ∧ ∃ F', WriterIs w' g F' (l ++ bitsOf v n) ∧ Only F w w' ∧ Fresh w F F' := by
  have hs : (((v : Int) / 2 ^ n) != 0) = false := by
    have : ((v : Int) / 2 ^ n) = ((v / 2 ^ n : Nat) : Int) := by simp
    rw [this, Nat.div_eq_of_lt hv]; rfl
  have hd1 : decide ((n : Int) < 0) = false := by simp
  have hd2 : decide ((32 : Int) < (n : Int)) = false := by simp; omega
  obtain ⟨i0, hi0, hz0, hz1, hz2⟩ := info_parts info_u8
  have hv32 : v < 4294967296 := Nat.lt_of_lt_of_le hv (Nat.pow_le_pow_right (by omega) hn : 2 ^ n ≤ 2 ^ 32)
  have Hh := Lib.hid h
  have Hv := Lib.hid hv
  clear h hv
  go_enter Try.func46, Try.ntmps46
  go_wp2
  clear hs hd1 hd2
  go_loopw [24] (fun i wr => ∃ k : Nat, k ≤ n ∧ i = .int .i64 k ∧ ∃ F', WriterIs wr g F' (l ++ (bitsOf v n).take k) ∧ Only F w wr ∧ Fresh w F F') (fun i _ => n - (intOf i).toNat)
  case atStart => exact ⟨0, Nat.zero_le _, rfl, F, by simpa using Hh.out, Only.refl _ _, Fresh.refl _ _⟩
  case round =>
    obtain ⟨k, hk, rfl, F1, hw1, ho, hf⟩ := hrel
    by_cases hlt : k < n
    · obtain ⟨m, hm⟩ : ∃ m, m = l ++ (bitsOf v n).take k := ⟨_, rfl⟩
      rw [← hm] at hw1
      obtain ⟨A, c, hb, hown, hF1⟩ := hw1
      have hml : m.length = l.length + k := by rw [hm]; simp [bitsOf]; omega
      have hc0 := hb.cell 0
      have hc1 := hb.cell 1
      have hf0 := hb.frozen 0
      have hf1 := hb.frozen 1
      simp only [List.getElem?_toArray, List.getElem?_cons_succ, List.getElem?_cons_zero] at hc0 hc1
      have Hm := Lib.hid hm
      have Hml := Lib.hid hml
      have hmle : m.length ≤ 1099511627776 + 32 := by omega
      clear hm hml
      by_cases h8 : m.length % 8 = 0
      · have h8i : (((m.length : Int) % 8) == 0) = true := by simp; omega
        have H8 := Lib.hid h8
        clear h8
        go_wp2_with (at_builtin; refine wpList_app1 _ rfl _ _ 22 rfl 5 i0 (.int .u8 0) 1 1 Try.underlying22 hi0 hz0 hz1 hz2 rfl (by decide) _ _ _ _ rfl (hown.alloc _) _ 1 1 [.int .u8 0] rfl (Reads.one _ _ _) ?c2 ?c3 ?c4 ?c5 ?_)
        case c2 => intro u hu; simp at hu; subst hu; rfl
        case c3 => unfold maxLen; omega
        case c4 => omega
        case c5 => omega
        intro r cap w1 hown1 ho1 hr1
        have hb1 : Blk w1 g 76 #[.slice A ((m.length + 7) / 8) c, .int .i64 (m.length : Int)] := (hb.alloc _).only ho1 (by have := own_blk_ne hown hb (by decide); simpa [rowFp] using this)
        have hd0 := hb1.cell 0
        have hd1 := hb1.cell 1
        have hg0 := hb1.frozen 0
        simp only [List.getElem?_toArray, List.getElem?_cons_succ, List.getElem?_cons_zero] at hd0 hd1
        clear hc0 hc1 hf0 hf1
        go_wp2_with fail
        obtain ⟨bi, hbi⟩ : ∃ bi : Int, bi = (bits BinOp.and IntKind.u32 ((v : Int) / 2 ^ (n - 1 - k)) 1 % 256) := ⟨_, rfl⟩
        rw [← hbi]
        have hb2 := hb1.set_ 0 (.slice (some ⟨r, 0, none⟩) ((m.length + 7) / 8 + 1) cap)
        have hrg : r ≠ g := by have := own_blk_ne hown1 hb1 (by decide); simpa [Value.ownBlock] using this
        have hown2 : (w1.setCell ⟨g, 0, none⟩ (.slice (some ⟨r, 0, none⟩) ((m.length + 7) / 8 + 1) cap)).ownsRow 0 5 1 (.slice (some ⟨r, 0, none⟩) ((m.length + 7) / 8 + 1) cap) ((m.length + 7) / 8 + 1) (bytesV (pack m) ++ [.int .u8 0]) :=
          own_only hown1 ((Only.refl [g] _).setCell (p := ⟨g, 0, none⟩) (.inl (by simp)) _) (by simp [rowFp, Value.ownBlock, hrg])
        have ho2 : Only F1 wr (w1.setCell ⟨g, 0, none⟩ (.slice (some ⟨r, 0, none⟩) ((m.length + 7) / 8 + 1) cap)) :=
          ((((Only.refl F1 wr).alloc _).trans ho1 (fun x hx => .inl (by rw [hF1]; exact List.mem_cons_of_mem _ hx))).setCell (p := ⟨g, 0, none⟩) (.inl (by rw [hF1]; simp)) _)
        have hfr : Fresh wr F1 [g, r] := by
          intro x hx
          simp at hx
          rcases hx with rfl | rfl
          · left; rw [hF1]; simp
          · rcases hr1 with h | h
            · left; rw [hF1]; exact List.mem_cons_of_mem _ h
            · right; omega
        have Ho2 := Lib.hid ho2
        clear ho2 ho1 hr1 hown1 hb1
        generalize w1.setCell ⟨g, 0, none⟩ (.slice (some ⟨r, 0, none⟩) ((m.length + 7) / 8 + 1) cap) = w2 at hb2 hown2 Ho2 ⊢
        simp at hb2
        have he0 := hb2.cell 0
        have he1 := hb2.cell 1
        have he2 := hb2.frozen 1
        simp at he0 he1
        have her := hown2.cellAt (m.length / 8) (by omega)
        have hec := hown2.frozenAt (m.length / 8)
        have hxs : (bytesV (pack m) ++ [.int .u8 0])[m.length / 8]? = some (.int .u8 (byteAt m (m.length / 8) : Int)) := by
          have := pack_grow m H8.out
          have e : bytesV (pack m) ++ [.int .u8 0] = bytesV (pack m ++ [0]) := by simp [bytesV]
          rw [e, this]; simp [bytesV]
        rw [hxs] at her
        have hlt1 : (m.length : Int) / 8 < (((m.length + 7) / 8 + 1 : Nat) : Int) := by omega
        have hge1 : (0 : Int) ≤ (m.length : Int) / 8 := by omega
        clear hd0 hd1 hg0 hxs
        have Hbi := Lib.hid hbi
        clear hbi
        go_region
        all_goals go_wp2_with fail
        go_roundw
        case rel =>
          have hx : bits BinOp.or IntKind.u8 (byteAt m (m.length / 8) : Int) (bi * 2 ^ (7 - m.length % 8) % 256) = (byteAt (m ++ [v.testBit (n - 1 - k)]) (m.length / 8) : Int) := by rw [Hbi.out, put_bit v _ hv32]; exact put_byte m _
          have hst := writer_step (by have := H8.out; omega) hb2 hown2 (by have := pack_grow m H8.out; rw [← this]; simp [bytesV]) hx
          have ho3 := Ho2.out.trans hst.2 hfr
          refine ⟨k + 1, by omega, by go_num, [g, r], ?_, ho.trans ho3 hf, hf.trans ho.size hfr⟩
          rw [bitsOf_snoc v n k hlt, ← List.append_assoc, ← Hm.out]
          exact hst.1
        case measure => simp [intOf]; omega
      · obtain ⟨r, cap, hv', hcap⟩ := own_form1 hown (by omega)
        obtain rfl : A = some ⟨r, 0, none⟩ := by injection hv'
        obtain rfl : c = cap := by injection hv'
        clear hv'
        have hrg : r ≠ g := by have := own_blk_ne hown hb (by decide); simpa [Value.ownBlock] using this
        have h8i : (((m.length : Int) % 8) == 0) = false := by simp; omega
        have H8 := Lib.hid h8
        clear h8
        have her := hown.cellAt (m.length / 8) (by have := H8.out; omega)
        have hec := hown.frozenAt (m.length / 8)
        have hxs : (bytesV (pack m))[m.length / 8]? = some (.int .u8 (byteAt m (m.length / 8) : Int)) := by
          rw [pack_stay m H8.out]; simp [bytesV]
        rw [hxs] at her
        have hlt1 : (m.length : Int) / 8 < (((m.length + 7) / 8 : Nat) : Int) := by have := H8.out; omega
        have hge1 : (0 : Int) ≤ (m.length : Int) / 8 := by omega
        clear hxs
        go_wp2_with fail
        obtain ⟨bi, hbi⟩ : ∃ bi : Int, bi = (bits BinOp.and IntKind.u32 ((v : Int) / 2 ^ (n - 1 - k)) 1 % 256) := ⟨_, rfl⟩
        rw [← hbi]
        have Hbi := Lib.hid hbi
        clear hbi
        go_region
        all_goals go_wp2_with fail
        go_roundw
        case rel =>
          have hx : bits BinOp.or IntKind.u8 (byteAt m (m.length / 8) : Int) (bi * 2 ^ (7 - m.length % 8) % 256) = (byteAt (m ++ [v.testBit (n - 1 - k)]) (m.length / 8) : Int) := by rw [Hbi.out, put_bit v _ hv32]; exact put_byte m _
          have hst := writer_step (by have := H8.out; omega) hb hown (by rw [pack_stay m H8.out]) hx
          have hfr : Fresh wr F1 [g, r] := by intro x hx; left; rw [hF1]; simpa [rowFp, Value.ownBlock] using hx
          refine ⟨k + 1, by omega, by go_num, [g, r], ?_, ho.trans (hst.2.mono (by rw [hF1]; simp [rowFp, Value.ownBlock])) hf, hf.trans ho.size hfr⟩
          rw [bitsOf_snoc v n k hlt, ← List.append_assoc, ← Hm.out]
          exact hst.1
        case measure => simp [intOf]; omega
    · go_wp2
      go_ret
      have hkn : k = n := by omega
      have e : (bitsOf v n).take k = bitsOf v n := List.take_of_length_le (by simp [bitsOf]; omega)
      rw [e] at hw1
      exact ⟨rfl, F1, hw1, ho, hf⟩

/-- What Put returns. -/
def putErr (v n : Int) : Int := if n < 0 ∨ 32 < n then 1 else if v.toNat < 2 ^ n.toNat then 0 else 2
/-- What it appends to the bits. -/
def putBits (l : List Bool) (v n : Int) : List Bool := if putErr v n = 0 then l ++ bitsOf v.toNat n.toNat else l

theorem put_arg (w : World) (g : Nat) (v n : Int) (h : n < 0 ∨ 32 < n) :
    Calls Try.prog 46 #[.pointer (some ⟨g, 0, none⟩), .int .u32 v, .int .i64 n] w fun e w' => e = .returned (.int .i64 1) ∧ w = w' := by
  rcases h with h | h
  · have hd1 : decide (n < 0) = true := by simpa using h
    go_enter Try.func46, Try.ntmps46
    go_wp2
    go_ret
    exact ⟨rfl, rfl⟩
  · have hd1 : decide (n < 0) = false := by simp; omega
    have hd2 : decide (32 < n) = true := by simpa using h
    go_enter Try.func46, Try.ntmps46
    go_wp2
    go_ret
    exact ⟨rfl, rfl⟩
theorem put_nil (w : World) (v n : Int) :
    Calls Try.prog 46 #[.pointer none, .int .u32 v, .int .i64 n] w fun e w' => e = .returned (.int .i64 1) ∧ w = w' := by
  go_enter Try.func46, Try.ntmps46
  go_wp2
  go_ret
  exact ⟨rfl, rfl⟩
theorem put_range (w : World) (g : Nat) (v n : Nat) (hn : n ≤ 32) (hv : ¬ v < 2 ^ n) :
    Calls Try.prog 46 #[.pointer (some ⟨g, 0, none⟩), .int .u32 (v : Int), .int .i64 (n : Int)] w fun e w' => e = .returned (.int .i64 2) ∧ w = w' := by
  have hs : (((v : Int) / 2 ^ n) != 0) = true := by
    have : ((v : Int) / 2 ^ n) = ((v / 2 ^ n : Nat) : Int) := by simp
    have h1 : 0 < v / 2 ^ n := Nat.div_pos (by omega) (Nat.two_pow_pos n)
    rw [this, bne_iff_ne]; omega
  have hd1 : decide ((n : Int) < 0) = false := by simp
  have hd2 : decide ((32 : Int) < (n : Int)) = false := by simp; omega
  clear hv
  go_enter Try.func46, Try.ntmps46
  go_wp2
  go_ret
  exact ⟨rfl, rfl⟩

theorem put_any (w : World) (g : Nat) (F : List Nat) (l : List Bool) (v n : Int) (h : WriterIs w g F l) (hv0 : 0 ≤ v) (hl : l.length ≤ 1099511627776) :
    Calls Try.prog 46 #[.pointer (some ⟨g, 0, none⟩), .int .u32 v, .int .i64 n] w fun e w' => e = .returned (.int .i64 (putErr v n)) ∧ ∃ F', WriterIs w' g F' (putBits l v n) ∧ Only F w w' ∧ Fresh w F F' := by
  unfold putBits putErr
  by_cases h1 : n < 0 ∨ 32 < n
  · rw [if_pos h1]
    refine (put_arg w g v n h1).mono ?_
    rintro e w' ⟨rfl, rfl⟩
    exact ⟨rfl, F, by simpa using h, Only.refl _ _, Fresh.refl _ _⟩
  · rw [if_neg h1]
    obtain ⟨n', rfl⟩ : ∃ n' : Nat, n = n' := ⟨n.toNat, by omega⟩
    obtain ⟨v', rfl⟩ : ∃ v' : Nat, v = v' := ⟨v.toNat, by omega⟩
    simp only [Int.toNat_natCast]
    by_cases h2 : v' < 2 ^ n'
    · rw [if_pos h2]
      refine (put_ok w g F l v' n' h (by omega) h2 hl).mono ?_
      rintro e w' ⟨rfl, F', hw, ho, hf⟩
      exact ⟨rfl, F', by simpa using hw, ho, hf⟩
    · rw [if_neg h2]
      refine (put_range w g v' n' (by omega) h2).mono ?_
      rintro e w' ⟨rfl, rfl⟩
      exact ⟨rfl, F, by simpa using h, Only.refl _ _, Fresh.refl _ _⟩

end Go.Proofs.Ytmojlfgfaabegaa
