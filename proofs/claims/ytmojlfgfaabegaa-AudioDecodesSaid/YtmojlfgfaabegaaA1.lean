/- The sum of bytes: contracts. -/
import Derived.Test.YtmojlfgfaabegaaRf
import Derived.Test.YtmojlfgfaabegaaHeap
namespace Go.Proofs.Ytmojlfgfaabegaa
open Go.RowKit bt

/-- The remainders of four bits. -/
def tb (n : Nat) : Nat := [0x0000, 0x1021, 0x2042, 0x3063, 0x4084, 0x50a5, 0x60c6, 0x70e7, 0x8108, 0x9129, 0xa14a, 0xb16b, 0xc18c, 0xd1ad, 0xe1ce, 0xf1ef].getD n 0
def s4 (r n : Nat) : Nat := (r * 16 % 65536) ^^^ tb ((r / 4096) ^^^ n)
def cs (r x : Nat) : Nat := s4 (s4 r (x / 16)) (x % 16)
/-- The sum. -/
def crc (l : List Nat) : Nat := l.foldl cs 65535
theorem tb_lt (n : Nat) : tb n < 65536 := by
  by_cases h : n < 16
  · have : ∀ i : Fin 16, tb i.val < 65536 := by decide +kernel
    exact this ⟨n, h⟩
  · unfold tb
    rw [List.getD_eq_getElem?_getD, List.getElem?_eq_none (by simp; omega)]
    simp
theorem ix_lt {r n : Nat} (hr : r < 65536) (hn : n < 16) : (r / 4096) ^^^ n < 16 := Nat.xor_lt_two_pow (n := 4) (by omega) hn
theorem s4_lt (r n : Nat) : s4 r n < 65536 := Nat.xor_lt_two_pow (n := 16) (Nat.mod_lt _ (by omega)) (tb_lt _)
theorem crc_lt (l : List Nat) : crc l < 65536 := by
  have : ∀ (l : List Nat) (r : Nat), r < 65536 → l.foldl cs r < 65536 := by
    intro l
    induction l with
    | nil => intro r h; exact h
    | cons x l ih => intro r _; exact ih _ (s4_lt _ _)
  exact this l 65535 (by omega)
theorem crc_take {l : List Nat} {k x : Nat} (h : l[k]? = some x) : crc (l.take (k + 1)) = cs (crc (l.take k)) x := by
  unfold crc
  rw [List.take_add_one, h]
  simp
def T16 : Nat → Int := fun i => (tb i : Int)
theorem zero16 : (Try.prog.info? 47).map (·.zero) = some (some (.agg (arr .u16 16 fun _ => 0))) := by kernel_rfl
theorem info_16 (x : Nat → Int) : (Try.prog.info? 47).map (·.size) = some (arr .u16 16 x).size := by rw [arr_size]; kernel_rfl
section
variable {ops : Array Oper} {rest : List Oper} {o : Oper} {a : Act} {w : World} {Q : Exit → Act → World → Prop} {X Y : Operand}
theorem al16 (hgd : o.guard = none) (ho : o.op = .alloc 47) (k : ∀ g w', Blk w' g 47 (arr .u16 16 fun _ => 0) → Only [] w w' → w.heap.size ≤ g → wpList Try.prog ops Q rest (a.put o.dst (.pointer (some ⟨g, 0, none⟩))) w') : wpList Try.prog ops Q (o :: rest) a w :=
  wal _ _ hgd ho zero16 rfl k
theorem sr16 {g : Nat} {x y : Nat → Int} (h : Blk w g 47 (arr .u16 16 x)) (hgd : o.guard = none) (ho : o.op = .store 47 X Y) (hx : a.eval X = .pointer (some ⟨g, 0, none⟩)) (hy : a.eval Y = .agg (arr .u16 16 y))
    (k : ∀ w', Blk w' g 47 (arr .u16 16 y) → Only [g] w w' → w'.heap.size = w.heap.size → wpList Try.prog ops Q rest (a.put o.dst undef) w') : wpList Try.prog ops Q (o :: rest) a w :=
  wsr _ h hgd ho hx hy (info_16 _) (by rw [arr_size, arr_size]) arr_one k
theorem bld16 {parts : Array (Nat × Operand)} (hgd : o.guard = none) (ho : o.op = .build 47 parts) (hb : Try.prog.built 47 (parts.map fun (i, x) => (i, a.eval x)).toList = some (arr .u16 16 T16))
    (k : wpList Try.prog ops Q rest (a.put o.dst (.agg (arr .u16 16 T16))) w) : wpList Try.prog ops Q (o :: rest) a w :=
  wpList_build hgd _ parts ho (by rw [hb]; rfl) (by rw [hb]; exact k)
end
set_option maxRecDepth 100000 in
set_option maxHeartbeats 1000000 in
theorem sum_any (w : World) (A : Option Addr) (c : Nat) (p : List Nat) (hr : Reads w A 1 p.length (bytesV p)) (hp : ∀ x ∈ p, x < 256) (hl : p.length ≤ 1099511627776) :
    Calls Try.prog 13 #[.slice A p.length c] w fun e w' => e = .returned (.int .u16 (crc p : Int)) ∧ Only [] w w' := by
  have Hr := Lib.hid hr
  have Hp := Lib.hid hp
  clear hr hp
  go_enter Try.func13, Try.ntmps13
  have tok : True := trivial
  have tok2 : True := trivial
  have tok3 : True := trivial
  go_wp2_with (first | (clear tok; refine bld16 rfl rfl (by kernel_rfl) ?_) | (clear tok2; refine al16 rfl rfl ?_; rintro g1 w1 b1 o1 l1) | (clear tok3; refine sr16 (y := T16) b1 rfl rfl rfl rfl ?_; rintro w2 b2 o2 l2))
  have ho2 := Only.own o1 o2 l1
  go_loopw [4, 10] (fun r i wr => ∃ k : Nat, k ≤ p.length ∧ i = .int .i64 (k : Int) ∧ ∃ rv : Nat, r = .int .u16 (rv : Int) ∧ Hid (crc (p.take k) = rv) ∧ w2 = wr) (fun _ i _ => p.length - (intOf i).toNat)
  case atStart => exact ⟨0, Nat.zero_le _, rfl, 65535, rfl, rfl, rfl⟩
  case round =>
    obtain ⟨k, hk, rfl, rv, rfl, Hrv, rfl⟩ := hrel
    have hrv : rv < 65536 := by rw [← Hrv.out]; exact crc_lt _
    by_cases hlt : k < p.length
    · obtain ⟨x, hx⟩ : ∃ x, p[k]? = some x := ⟨_, List.getElem?_eq_getElem hlt⟩
      have hx' : (bytesV p)[k]? = some (.int .u8 (x : Int)) := by simp [bytesV, hx]
      have hx8 := Hp.out x (List.mem_of_getElem? hx)
      obtain ⟨b, off, rfl, hc⟩ := (Hr.out.then ho2).plain (by omega) (by omega)
      have hcx := hc _ _ hx'
      have hki : (k : Int) < (p.length : Int) := by omega
      have Hn := Lib.hid (crc_take hx)
      have hxd : (x : Int) / 16 = ((x / 16 : Nat) : Int) := by omega
      have hxm : (x : Int) % 16 = ((x % 16 : Nat) : Int) := by omega
      have hxa : bits BinOp.and IntKind.u8 (x : Int) 15 = ((x % 16 : Nat) : Int) := by
        have := u8_and_nat x 15 (by omega) (by omega)
        rw [show x &&& 15 = x % 16 from Nat.and_two_pow_sub_one_eq_mod x 4] at this
        exact this
      have Hcs := Lib.hid (show cs rv x = s4 (s4 rv (x / 16)) (x % 16) from rfl)
      have hx1 : x / 16 < 16 := by omega
      have hx2 : x % 16 < 16 := by omega
      generalize x / 16 = xd at hxd Hcs hx1
      generalize x % 16 = xm at hxm hxa Hcs hx2
      have e1 : bits BinOp.xor IntKind.u16 ((rv : Int) / 4096) (xd : Int) = (((rv / 4096) ^^^ xd : Nat) : Int) := by
        rw [show (rv : Int) / 4096 = ((rv / 4096 : Nat) : Int) by omega]
        exact u16_xor_nat _ _ (by omega) (by omega)
      have h1 := ix_lt hrv hx1
      have c1 := b2.cell ((rv / 4096) ^^^ xd)
      rw [arr_get h1] at c1
      have e2 : bits BinOp.xor IntKind.u16 (IntKind.u16.wrap ((rv : Int) * 16)) (T16 ((rv / 4096) ^^^ xd)) = (s4 rv xd : Int) := by
        rw [show IntKind.u16.wrap ((rv : Int) * 16) = ((rv * 16 % 65536 : Nat) : Int) by rw [IntKind.wrap_u16]; omega]
        exact u16_xor_nat _ _ (by omega) (tb_lt _)
      have hs1 := s4_lt rv xd
      generalize hn1 : (rv / 4096) ^^^ xd = n1 at e1 h1 c1 e2
      generalize hr1 : s4 rv xd = r1 at e2 hs1 Hcs
      have e3 : bits BinOp.xor IntKind.u16 ((r1 : Int) / 4096) (xm : Int) = (((r1 / 4096) ^^^ xm : Nat) : Int) := by
        rw [show (r1 : Int) / 4096 = ((r1 / 4096 : Nat) : Int) by omega]
        exact u16_xor_nat _ _ (by omega) (by omega)
      have h2 := ix_lt hs1 hx2
      have c2 := b2.cell ((r1 / 4096) ^^^ xm)
      rw [arr_get h2] at c2
      have e4 : bits BinOp.xor IntKind.u16 (IntKind.u16.wrap ((r1 : Int) * 16)) (T16 ((r1 / 4096) ^^^ xm)) = (s4 r1 xm : Int) := by
        rw [show IntKind.u16.wrap ((r1 : Int) * 16) = ((r1 * 16 % 65536 : Nat) : Int) by rw [IntKind.wrap_u16]; omega]
        exact u16_xor_nat _ _ (by omega) (tb_lt _)
      have hs2 := s4_lt r1 xm
      have Hr2 := Lib.hid (show crc (p.take (k + 1)) = s4 r1 xm by rw [Hn.out, Hrv.out, Hcs.out])
      generalize hn2 : (r1 / 4096) ^^^ xm = n2 at e3 h2 c2 e4
      generalize s4 r1 xm = r2 at e4 hs2 Hr2
      clear hc hx' hx hn1 hr1 hn2 Hcs
      go_wp2_with fail
      go_roundw
      case rel => exact ⟨k + 1, by omega, by go_num, r2, rfl, Hr2, by first | rfl | trivial⟩
      case measure => simp [intOf]; omega
    · have hke : k = p.length := by omega
      subst hke
      rw [List.take_length] at Hrv
      go_wp2_with fail
      go_ret
      exact ⟨by rw [Hrv.out]; rfl, ho2⟩
end Go.Proofs.Ytmojlfgfaabegaa
