/-
  Plain: values and cells come back from their bytes.
-/
import Derived.Test.YtonghiaocpenaaaDoorKPlain
namespace Go.Proofs.YtonghiaocpenaaaDoor
open Go.RowKit

theorem be64_eight (u : Int) (h0 : 0 ≤ u) (h1 : u < 18446744073709551616) : be64 (eightL u) = u := by
  have e0 : (0 : Int) * 256 % 18446744073709551616 + u / 72057594037927936 = u / 72057594037927936 := by omega
  have e1 : (u / 72057594037927936) * 256 % 18446744073709551616 + u / 281474976710656 % 256 = u / 281474976710656 := by omega
  have e2 : (u / 281474976710656) * 256 % 18446744073709551616 + u / 1099511627776 % 256 = u / 1099511627776 := by omega
  have e3 : (u / 1099511627776) * 256 % 18446744073709551616 + u / 4294967296 % 256 = u / 4294967296 := by omega
  have e4 : (u / 4294967296) * 256 % 18446744073709551616 + u / 16777216 % 256 = u / 16777216 := by omega
  have e5 : (u / 16777216) * 256 % 18446744073709551616 + u / 65536 % 256 = u / 65536 := by omega
  have e6 : (u / 65536) * 256 % 18446744073709551616 + u / 256 % 256 = u / 256 := by omega
  have e7 : (u / 256) * 256 % 18446744073709551616 + u % 256 = u := by omega
  unfold be64 eightL
  simp only [List.foldl_cons, List.foldl_nil]
  rw [e0, e1, e2, e3, e4, e5, e6, e7]
theorem eight_bytes (u : Int) (h0 : 0 ≤ u) (h1 : u < 18446744073709551616) : Bytes (eightL u) := by
  intro x hx
  unfold eightL at hx
  simp only [List.mem_cons, List.not_mem_nil, or_false] at hx
  rcases hx with rfl | rfl | rfl | rfl | rfl | rfl | rfl | rfl <;> omega
theorem eight_len (u : Int) : (eightL u).length = 8 := rfl
theorem rank_back (u : Int) (h0 : 0 ≤ u) (h1 : u < 18446744073709551616) : unrankN (rankN u) = u := by
  unfold unrankN rankN
  by_cases hc : 9223372036854775808 ≤ u
  · rw [if_pos hc, if_neg (by omega)]; omega
  · rw [if_neg hc, if_pos (by omega)]; omega
theorem from_back (n : Int) (hn : isInt n) (hok : floatOk n = true) : fromV (eightL (rankN (n % 18446744073709551616))) = some n := by
  obtain ⟨n0, n1⟩ := hn
  have hr := rank_range (n % 18446744073709551616) (by omega) (by omega)
  have e : IntKind.i64.wrap (unrankN (be64 (eightL (rankN (n % 18446744073709551616))))) = n := by
    rw [be64_eight _ hr.1 hr.2, rank_back _ (by omega) (by omega), IntKind.wrap_i64]; omega
  unfold fromV
  rw [e, if_pos ⟨rfl, hok⟩]
theorem nil_size {s : ByteArray} (h : s.size = 0) : s = ⟨#[]⟩ := by
  have : s.data.toList = [] := List.eq_nil_of_length_eq_zero (by rw [← Lib.size_eq]; exact h)
  have h2 : s.data = #[] := by rw [← Array.toList_inj]; exact this
  cases s with
  | mk d => simp at h2; rw [h2]
/-- A right value comes back from its bytes. -/
theorem taken_back (k n : Int) (s : ByteArray) (hn : isInt n) (hok : valOk k n s = true) : takenV k (plainL k n s) = some (n, s) := by
  obtain ⟨n0, n1⟩ := id hn
  unfold takenV plainL
  by_cases k1 : k = 1
  · subst k1
    have hs : s.size = 0 := by simpa [valOk] using hok
    rw [if_pos rfl, if_pos rfl, if_pos (eight_len _), be64_eight _ (by omega) (by omega), xor_top _ (by omega) (by omega), nil_size hs, IntKind.wrap_i64]
    congr 2
    omega
  by_cases k5 : k = 5
  · subst k5
    have hs : s.size = 0 ∧ floatOk n = true := by simpa [valOk] using hok
    rw [if_neg (by decide), if_pos rfl, if_neg (by decide), if_pos rfl, from_back n hn hs.2, nil_size hs.1]
    rfl
  by_cases k4 : k = 4
  · subst k4
    have hs : s.size = 0 ∧ (n = 0 ∨ n = 1) := by simpa [valOk] using hok
    rw [if_neg (by decide), if_neg (by decide), if_pos rfl, if_neg (by decide), if_neg (by decide), if_pos rfl, nil_size hs.1]
    simp only [if_pos hs.2]
  · have hn0 : n = 0 := by
      unfold valOk at hok
      rw [if_neg k1, if_neg k4, if_neg k5] at hok
      split at hok
      · simp at hok; exact hok.1
      · split at hok
        · simp at hok; exact hok.1
        · cases hok
    subst hn0
    have hr := read_esc s []
    rw [List.append_nil] at hr
    rw [if_neg k1, if_neg k5, if_neg k4, if_neg k1, if_neg k5, if_neg k4, hr]
    simp only [of_num]
    rw [if_pos hok]
end Go.Proofs.YtonghiaocpenaaaDoor
