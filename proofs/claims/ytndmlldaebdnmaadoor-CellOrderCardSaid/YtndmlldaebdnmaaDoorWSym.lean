/-
  slices.symMergeCmpFunc at cells: two sorted neighbours are made one.
-/
import Derived.Test.YtndmlldaebdnmaaDoorWSymM
namespace Go.Proofs.YtndmlldaebdnmaaDoor
open Go.RowKit

theorem sym_all : ∀ (d base g n cap a m b : Nat) (L A B R : List Cell) (w : World), b - a ≤ d → OwnC w base (some ⟨g, 0, none⟩) n cap (L ++ A ++ B ++ R) → a = L.length → m = a + A.length → b = m + B.length → Mounts A → Mounts B → A ≠ [] → B ≠ [] → n ≤ 1000000 →
    Calls Tryd.prog 52 #[.slice (some ⟨g, 0, none⟩) n cap, .int .i64 a, .int .i64 m, .int .i64 b, ordF] w (SymOut base g n cap L A B R w)
  | 0, base, g, n, cap, a, m, b, L, A, B, R, w, hd, h, ha, hm, hb, hA, hB, hA0, hB0, hn => by
    have := List.length_pos_iff.2 hA0
    omega
  | d + 1, base, g, n, cap, a, m, b, L, A, B, R, w, hd, h, ha, hm, hb, hA, hB, hA0, hB0, hn => by
    have h1 := List.length_pos_iff.2 hA0
    have h2 := List.length_pos_iff.2 hB0
    by_cases hA1 : A.length = 1
    · obtain ⟨x, rfl⟩ := List.length_eq_one_iff.1 hA1
      exact symL_calls base g n cap a m b L x B R w h ha hm hb hB hn
    · by_cases hB1 : B.length = 1
      · obtain ⟨y, rfl⟩ := List.length_eq_one_iff.1 hB1
        exact symR_calls base g n cap a m b L A y R w h ha hm hb hA hA1 hn
      · exact symM_calls d (sym_all d) base g n cap a m b L A B R w hd h ha hm hb hA hB (by omega) (by omega) hn
theorem sym_calls (base g n cap a m b : Nat) {x y z : Int} (hx : x = a) (hy : y = m) (hz : z = b) (L A B R : List Cell) (w : World) (h : OwnC w base (some ⟨g, 0, none⟩) n cap (L ++ A ++ B ++ R)) (ha : a = L.length) (hm : m = a + A.length) (hb : b = m + B.length) (hA : Mounts A) (hB : Mounts B) (hA0 : A ≠ []) (hB0 : B ≠ []) (hn : n ≤ 1000000) :
    Calls Tryd.prog 52 #[.slice (some ⟨g, 0, none⟩) n cap, .int .i64 x, .int .i64 y, .int .i64 z, ordF] w (SymOut base g n cap L A B R w) := by
  subst hx hy hz
  exact sym_all (b - a) base g n cap a m b L A B R w (Nat.le_refl _) h ha hm hb hA hB hA0 hB0 hn
end Go.Proofs.YtndmlldaebdnmaaDoor
