/- Contracts of the reader's methods: NewReader, Left, At, Take. -/
import Derived.Test.YtmojlfgfaabegaaWp
import Derived.Test.YtmojlfgfaabegaaTz
import Derived.Test.YtmojlfgfaabegaaBits2
namespace Go.Proofs.Ytmojlfgfaabegaa
open Go.RowKit bt

/-- At block g there is a reader of the first n bits of the bytes p, which lie in block b; 'at_' bits have been taken. -/
def ReaderIs (w : World) (g b : Nat) (p : List Nat) (n at_ : Nat) : Prop :=
  Blk w g 71 #[.slice (some ⟨b, 0, none⟩) p.length p.length, .int .i64 (n : Int), .int .i64 (at_ : Int)] ∧ Blk w b 5 (bytesV p).toArray ∧ at_ ≤ n ∧ n < 8 * p.length ∧ p.length ≤ 1099511627776 ∧ ∀ x ∈ p, x < 256

theorem ReaderIs.only {w w' : World} {g b : Nat} {p : List Nat} {n at_ : Nat} {F : List Nat} (h : ReaderIs w g b p n at_) (ho : Only F w w') (hg : g ∉ F) (hb : b ∉ F) : ReaderIs w' g b p n at_ :=
  ⟨h.1.only ho hg, h.2.1.only ho hb, h.2.2⟩
theorem ReaderIs.ne {w : World} {g b : Nat} {p : List Nat} {n at_ : Nat} (h : ReaderIs w g b p n at_) : g ≠ b := h.1.ne_ h.2.1 (by decide)

theorem left_any (w : World) (g b : Nat) (p : List Nat) (n at_ : Nat) (h : ReaderIs w g b p n at_) :
    Calls Try.prog 35 #[.pointer (some ⟨g, 0, none⟩)] w fun e w' => e = .returned (.int .i64 ((n : Int) - (at_ : Int))) ∧ w.drew = w' := by
  obtain ⟨hb, _, h1, h2, h3, _⟩ := h
  have hc1 := hb.cell 1
  have hc2 := hb.cell 2
  simp only [List.getElem?_toArray, List.getElem?_cons_succ, List.getElem?_cons_zero] at hc1 hc2
  clear hb
  go_enter Try.func35, Try.ntmps35
  go_wp2
  go_region
  all_goals go_wp2
  go_ret
  exact ⟨rfl, rfl⟩
theorem left_nil (w : World) : Calls Try.prog 35 #[.pointer none] w fun e w' => e = .returned (.int .i64 0) ∧ w = w' := by
  go_enter Try.func35, Try.ntmps35
  go_wp2
  go_ret
  exact ⟨rfl, rfl⟩

/-- How many bits NewReader finds. -/
def nBits (p : List Nat) : Nat := 8 * p.length - 1 - Lib.trailingZeros8 (p.getLastD 0)

theorem newReader_none (w : World) (A : Option Addr) (m c : Nat) (p : List Nat) (hr : Reads w A 1 m (bytesV p)) (hm : m ≤ 1099511627776) (h : p.getLastD 0 = 0) :
    Calls Try.prog 34 #[.slice A m c] w fun e w' => e = .returned (.tuple #[.pointer none, .int .i64 3]) ∧ w = w' := by
  have hpl : p.length = m := by have := hr.1; simpa [bytesV] using this
  by_cases h0 : m = 0
  · have hz : ((m : Int) == 0) = true := by simp; omega
    have Hr := Lib.hid hr
    clear hr
    subst h0
    go_enter Try.func34, Try.ntmps34
    go_wp2
    go_ret2
    exact ⟨rfl, rfl⟩
  · obtain ⟨ad, u, rfl, hu, hc⟩ := hr.at_ (k := m - 1) (by omega)
    have hz : ((m : Int) == 0) = false := by simp; omega
    have hx : u = .int .u8 0 := by
      simp only [bytesV, List.getElem?_map] at hu
      rw [List.getLastD_eq_getLast?, List.getLast?_eq_getElem?, hpl] at h
      cases hq : p[m - 1]? with
      | none => rw [hq] at hu; simp at hu
      | some x => rw [hq] at hu h; simp at hu h; rw [← hu, h]; rfl
    subst hx
    have hlt : (m : Int) - 1 < (m : Int) := by omega
    have hge : (0 : Int) ≤ (m : Int) - 1 := by omega
    have e : ((m : Int) - 1).toNat = m - 1 := by omega
    clear hr hu h
    go_enter Try.func34, Try.ntmps34
    go_wp2
    go_ret2
    exact ⟨rfl, rfl⟩
end Go.Proofs.Ytmojlfgfaabegaa
