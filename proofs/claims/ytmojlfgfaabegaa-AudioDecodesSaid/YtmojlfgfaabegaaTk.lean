/- Contract of Take for every number, in one; readers of payloads. -/
import Derived.Test.YtmojlfgfaabegaaPay
namespace Go.Proofs.Ytmojlfgfaabegaa
open Go.RowKit bt

/-- What Take returns as an error. -/
def takeErr (n at_ : Nat) (k : Int) : Int := if k < 0 ∨ 32 < k then 1 else if n < at_ + k.toNat then 4 else 0
/-- What it returns as a number. -/
def takeVal (l : List Bool) (at_ : Nat) (k : Int) : Nat := if takeErr l.length at_ k = 0 then num (window l at_ k.toNat) else 0
/-- Where it stands behind it. -/
def takeAt (n at_ : Nat) (k : Int) : Nat := if takeErr n at_ k = 0 then at_ + k.toNat else at_
theorem takeAt_le {n at_ : Nat} (h : at_ ≤ n) (k : Int) : takeAt n at_ k ≤ n := by
  unfold takeAt
  by_cases h0 : takeErr n at_ k = 0
  · rw [if_pos h0]
    unfold takeErr at h0
    split at h0
    · cases h0
    · split at h0
      · cases h0
      · omega
  · rw [if_neg h0]; exact h

theorem take_any (w : World) (g b : Nat) (p : List Nat) (n at_ : Nat) (k : Int) (h : ReaderIs w g b p n at_) :
    Calls Try.prog 59 #[.pointer (some ⟨g, 0, none⟩), .int .i64 k] w fun e w' => e = .returned (.tuple #[.int .u32 (takeVal (bitsIn p n) at_ k : Int), .int .i64 (takeErr n at_ k)]) ∧ ReaderIs w' g b p n (takeAt n at_ k) ∧ Only [g] w w' := by
  have hrefl : ReaderIs w.drew g b p n at_ := h.only ((Only.refl [] _).drew) (by simp) (by simp)
  unfold takeVal takeAt
  rw [bitsIn_length]
  unfold takeErr
  by_cases h1 : k < 0 ∨ 32 < k
  · simp only [if_pos h1]
    refine (take_arg w g k h1).mono ?_
    rintro e w' ⟨rfl, rfl⟩
    exact ⟨rfl, h, Only.refl _ _⟩
  · simp only [if_neg h1]
    obtain ⟨k', rfl⟩ : ∃ k' : Nat, k = k' := ⟨k.toNat, by omega⟩
    simp only [Int.toNat_natCast]
    by_cases h2 : n < at_ + k'
    · simp only [if_pos h2]
      refine (take_short w g b p n at_ k' h (by omega) h2).mono ?_
      rintro e w' ⟨rfl, rfl⟩
      exact ⟨rfl, hrefl, (Only.refl _ _).drew⟩
    · simp only [if_neg h2]
      refine (take_ok w g b p n at_ k' h (by omega) (by omega)).mono ?_
      rintro e w' ⟨rfl, h3, h4⟩
      exact ⟨rfl, h3, h4⟩

theorem Reads.of_blk {w : World} {g : Nat} {t : TypeId} {xs : List Value} (h : Blk w g t xs.toArray) (n : Nat) (hn : xs.length = n) : Reads w (some ⟨g, 0, none⟩) 1 n xs := by
  refine ⟨by omega, fun _ => ⟨_, rfl, fun j u hu => ?_⟩⟩
  rw [add_plain, Nat.zero_add, h.cell j]
  simpa using hu
theorem payload_reads {w : World} {g : Nat} {l : List Bool} (h : Blk w g 5 (bytesV (payload l)).toArray) : Reads w (some ⟨g, 0, none⟩) 1 (l.length / 8 + 1) (bytesV (payload l)) :=
  Reads.of_blk h _ (by rw [bytesV_length, payload_length])

/-- A reader of the payload of l. -/
theorem newReader_payload (w : World) (A : Option Addr) (c : Nat) (l : List Bool) (hr : Reads w A 1 (l.length / 8 + 1) (bytesV (payload l))) (hl : l.length ≤ 1099511627776) :
    Calls Try.prog 34 #[.slice A (l.length / 8 + 1) c] w fun e w' => e = .returned (.tuple #[.pointer (some ⟨w.heap.size + 1, 0, none⟩), .int .i64 0]) ∧ ReaderIs w' (w.heap.size + 1) w.heap.size (payload l) l.length 0 ∧ Only [] w w' := by
  refine (newReader_some w A _ c (payload l) hr (by omega) (payload_lt _) (payload_last_ne l)).mono ?_
  rintro e w' ⟨rfl, h1, h2⟩
  rw [nBits_payload] at h1
  exact ⟨rfl, h1, h2⟩
end Go.Proofs.Ytmojlfgfaabegaa
