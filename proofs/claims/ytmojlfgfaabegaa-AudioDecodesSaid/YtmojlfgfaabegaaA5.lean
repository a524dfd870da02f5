/- appendSum; the deferred closure of PutBlock where nothing panics. -/
import Derived.Test.YtmojlfgfaabegaaA4
import Derived.WalkLawsBesides
import Derived.Recover
namespace Go.Proofs.Ytmojlfgfaabegaa
open Go.RowKit bt

/-- Bytes and their sum. -/
def sm (p : List Nat) : List Nat := p ++ [crc p / 256, crc p % 256]
theorem Reads.two (w : World) (u v : Value) (e : TypeId) : Reads (w.alloc (.cells #[u, v] e)) (some ⟨w.heap.size, 0, none⟩) 1 2 [u, v] :=
  ⟨rfl, fun _ => ⟨_, rfl, fun j x hx => by
    match j, hx with
    | 0, hx => simp at hx; subst hx; simp [Addr.add]
    | 1, hx => simp at hx; subst hx; simp [Addr.add]⟩⟩
set_option maxRecDepth 100000 in
set_option maxHeartbeats 1000000 in
theorem appendSum_any (w : World) (A : Option Addr) (c n : Nat) (p : List Nat) (hn : n = p.length) (hown : w.ownsRow 0 5 1 (.slice A n c) n (bytesV p)) (hp : ∀ x ∈ p, x < 256) (hl : p.length ≤ 1000000000) :
    Calls Try.prog 47 #[.slice A n c] w fun e w' => ∃ A' c', e = .returned (.slice A' (n + 2) c') ∧ w'.ownsRow 0 5 1 (.slice A' (n + 2) c') (n + 2) (bytesV (sm p)) ∧ Only (rowFp (.slice A n c)) w w' ∧ Fresh w (rowFp (.slice A n c)) (rowFp (.slice A' (n + 2) c')) := by
  obtain ⟨i0, hi0, hz0, hz1, hz2⟩ := info_parts info_u8
  subst hn
  have hlt := crc_lt p
  have hS := sum_any w A c p (Reads.of_own hown) hp (by omega)
  have Hown := Lib.hid hown
  have HS := Lib.hid hS
  have Hsm := Lib.hid (show sm p = p ++ [crc p / 256, crc p % 256] from rfl)
  clear hown hp hS
  go_enter Try.func47, Try.ntmps47
  go_wp2_with fail
  refine HS.out.mono ?_
  rintro e w1 ⟨rfl, o1⟩
  generalize crc p = r at hlt Hsm ⊢
  have own1 := own_only Hown.out o1 (fun _ _ => List.not_mem_nil)
  have e1 : (r : Int) / 256 = ((r / 256 : Nat) : Int) := by omega
  have e2 : (r : Int) % 256 = ((r % 256 : Nat) : Int) := by omega
  have e3 : IntKind.u8.wrap (r : Int) = ((r % 256 : Nat) : Int) := by rw [IntKind.wrap_u8']; exact e2
  have hh : r / 256 < 256 := by omega
  have hlo : r % 256 < 256 := by omega
  generalize r / 256 = hi at e1 Hsm hh
  generalize r % 256 = lo at e2 e3 Hsm hlo
  go_wp2_with (at_builtin; refine wpList_app _ rfl _ _ 22 rfl 5 i0 (.int .u8 0) 1 1 Try.underlying22 hi0 hz0 hz1 hz2 rfl (by decide) A p.length c (bytesV p) rfl (own1.alloc _) _ 2 2 [.int .u8 (hi : Int), .int .u8 (lo : Int)] rfl (Reads.two _ _ _ _) ?c2 ?c3 ?c4 ?_)
  case c2 => intro u hu; simp at hu; rcases hu with rfl | rfl <;> rfl
  case c3 => unfold maxLen; omega
  case c4 => omega
  intro A' c' w2 own2 o2 f2
  go_wp2_with fail
  go_ret
  refine ⟨A', c', rfl, ?_, ?_, ?_⟩
  · rw [Hsm.out, bytesV_append]
    exact own2
  · exact ((o1.mono (by simp)).alloc _).trans o2 (Fresh.refl _ _)
  · exact Fresh.trans (Fresh.refl _ _) (Nat.le_trans o1.size (by simp)) f2
theorem same_mode {c : Frame} {u : FrameMode} (h : c.mode = u) : c = { c with mode := u } := by subst h; rfl
set_option maxHeartbeats 1000000 in
theorem putIdle (p q : Addr) (w : World) :
    CallsD Try.prog 42 #[.pointer (some p), .pointer (some q)] .returning w fun e u' w' => e = .returned (.tuple #[]) ∧ u' = .returning ∧ w' = w := by
  refine callsD_of_wpS Try.func42 rfl fun c₀ cs hu => ?_
  apply wpS_seq
  apply wpS_region
  simp [wpOpsS, go_sem, recoverD, hu, Try.ntmps42, Exit.thenS]
  refine wpS_cond (t := false) (by simp [Act.eval, Array.replicate]) ?_
  simp only [Bool.false_eq_true, if_false]
  refine wpS_of_wp (wp_skip ?_)
  exact ⟨rfl, .returning, congrArg (· :: cs) (same_mode hu), .tuple #[], by simp [results, Try.results42], rfl, rfl, rfl⟩
end Go.Proofs.Ytmojlfgfaabegaa
