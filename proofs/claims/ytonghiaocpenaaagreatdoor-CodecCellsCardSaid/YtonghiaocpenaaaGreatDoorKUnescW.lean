/-
  val.unescaped, walked.
-/
import Derived.Test.YtonghiaocpenaaaGreatDoorKUnesc
namespace Go.Proofs.YtonghiaocpenaaaGreatDoor
open Go.RowKit

theorem rdb_take {w : World} {A : Option Addr} {n : Nat} {xs : List Int} (h : RdB w A n xs) (k : Nat) (hk : k ≤ n) : RdB w A k (xs.take k) :=
  ⟨by rw [List.length_take, ← h.len]; omega, fun i c hc => h.at_ i c (by
    rw [List.getElem?_take] at hc
    split at hc
    · exact hc
    · cases hc)⟩
theorem rdb_cell {w : World} {b o n : Nat} {xs : List Int} (h : RdB w (some ⟨b, o, none⟩) n xs) {i : Nat} {x : Int} (hx : xs[i]? = some x) : w.cell? ⟨b, o + i, none⟩ = some (.int .u8 x) := by
  obtain ⟨b', o', h1, _, h3⟩ := h.at_ i x hx
  injection h1 with h1
  injection h1 with e1 e2 _
  subst e1; subst e2
  have := h3 0 _ rfl
  rwa [Nat.mul_one, Nat.add_zero] at this
/-- What unescaped answers. -/
def UnescOut (xs : List Int) (w : World) (e : Ending) (w' : World) : Prop :=
  Below w.heap.size w w' ∧ ((∃ t, readV [] xs = some (some t, []) ∧ e = .returned (.tuple #[.string (ofL t), .bool true])) ∨ ((∀ t, readV [] xs ≠ some (some t, [])) ∧ ∃ s, e = .returned (.tuple #[.string s, .bool false])))

set_option maxHeartbeats 4000000 in
set_option maxRecDepth 20000 in
theorem unesc_calls (b off n cap : Nat) (xs : List Int) (w : World) (hx : RdB w (some ⟨b, off, none⟩) n xs) (hbl : b < w.heap.size) (hb : Bytes xs) (hn : n ≤ 1000000) (hcap : n ≤ cap) (hcm : cap ≤ maxLen) :
    Calls Tryz.prog 85 #[.slice (some ⟨b, off, none⟩) n cap] w (UnescOut xs w) := by
  have hown0 := Own.nil 5 1 encB w w.heap.size
  have hb0 := Below.refl w.heap.size w
  unfold maxLen at hcm
  go_enter Tryz.func85, Tryz.ntmps85
  go_wp2_with fail
  go_loopg [0, 4] n (fun gk sv ov wr => ∃ (o n' cap' : Nat) (ys : List Int) (k ocap : Nat) (A : Option Addr) (out : List Int), sv = .slice (some ⟨b, o, none⟩) n' cap' ∧ ov = .slice A k ocap ∧ n' = gk ∧ n' ≤ cap' ∧ cap' ≤ 2 ^ 63 - 1 ∧ k + n' ≤ n ∧ Hid (RdB wr (some ⟨b, o, none⟩) n' ys) ∧ Hid (Bytes ys) ∧ Hid (OwnB wr w.heap.size A k ocap out) ∧ Hid (Bytes out) ∧ Hid (Below w.heap.size w wr) ∧ Hid (readV [] xs = readV out ys))
  case atStart => exact ⟨off, n, cap, xs, 0, 0, none, [], rfl, rfl, rfl, hcap, hcm, by omega, hx, hb, hown0, (fun x hx => by cases hx), hb0, rfl⟩
  case round =>
    clear hown0 hb0 hx hb hcap hcm
    obtain ⟨o, n', cap', ys, k, ocap, A, out, rfl, rfl, rfl, hcap, hcm, hkn, HX, HBY, HOWN, HBO, HB, HR⟩ := hrel
    have hidx := Tryz.bytes_IndexByte b o n' cap' ys 0 wr HX.out.len.symm (fun i hi => by
      have hi' : i < ys.length := by rw [← HX.out.len]; exact hi
      have := rdb_cell HX.out (List.getElem?_eq_getElem hi')
      rw [this, List.getD_eq_getElem?_getD, List.getElem?_eq_getElem hi']
      rfl)
    have hbig : ¬ ((n' : Int) < 0) := by omega
    rcases index_zero ys HBY.out with ⟨i1, i2⟩ | ⟨i, i1, i2, i3, i4⟩
    · rw [i1] at hidx
      have HIDX := Lib.hid hidx
      have hno : ∀ t, readV [] xs ≠ some (some t, []) := fun t => by rw [HR.out, readV_none _ _ i2]; simp
      have HNO := Lib.hid hno
      clear hidx i1 i2 hno
      go_wp2_with fail
      refine HIDX.out.mono ?_
      rintro e wr ⟨rfl, rfl⟩
      go_wp2
      go_ret2
      exact ⟨HB.out, .inr ⟨HNO.out, _, rfl⟩⟩
    · rw [i1] at hidx
      have HIDX := Lib.hid hidx
      rw [← HX.out.len] at i2
      have hsplit : readV out ys = readZ (out ++ ys.take i) (ys.drop (i + 1)) := by
        conv => lhs; rw [← List.take_append_drop i ys]
        rw [readV_skip _ _ _ i3, i4, readV_mark]
      have HS := Lib.hid hsplit
      clear hidx i1 i3 i4 hsplit
      by_cases hend : i + 1 = n'
      · have hno : ∀ t, readV [] xs ≠ some (some t, []) := fun t => by
          rw [HR.out, HS.out, List.drop_of_length_le (by rw [← HX.out.len]; omega)]; simp [readZ]
        have HNO := Lib.hid hno
        have hend' : (i : Int) + 1 = (n' : Int) := by omega
        clear hno
        go_wp2_with fail
        refine HIDX.out.mono ?_
        rintro e wr ⟨rfl, rfl⟩
        go_wp2
        go_ret2
        exact ⟨HB.out, .inr ⟨HNO.out, _, rfl⟩⟩
      · obtain ⟨x, hxx⟩ : ∃ x, ys[i + 1]? = some x := ⟨_, List.getElem?_eq_getElem (by rw [← HX.out.len]; omega)⟩
        have hdrop : ys.drop (i + 1) = x :: ys.drop (i + 2) := drop_at hxx
        have hend' : ¬ (i : Int) + 1 = (n' : Int) := by omega
        have hcell := rdb_cell HX.out hxx
        have hwr := HX.out.get (i + 1) (by omega)
        have hblr : b < wr.heap.size := Nat.lt_of_lt_of_le hbl HB.out.size
        have HTK := Lib.hid (rdb_take HX.out i (by omega))
        have HXX := Lib.hid hxx
        have HD := Lib.hid hdrop
        rw [hdrop] at HS
        have hic : (i : Int) ≤ (cap' : Int) := by omega
        have hsz := HB.out.size
        clear hwr hxx hdrop
        have hfar : ¬ (A = some ⟨b, 0, none⟩) := (fun h => by have := own_above HOWN.out b h; omega)
        by_cases hce : cap' = i + 2
        · obtain rfl : n' = i + 2 := by omega
          subst hce
          have hbe : ((i : Int) + 1 == (i : Int) + 2) = false := by rw [beq_eq_false_iff_ne]; omega
          have hi0 : ¬ ((i : Int) < 0) := by omega
          have hii : i + 2 - (i + 2) = 0 := by omega
          by_cases hx1 : x = 1
          · subst hx1
            go_wp2_with fail
            refine HIDX.out.mono ?_
            rintro e wr ⟨rfl, rfl⟩
            go_wp2_with (at_builtin; refine app_bytes rfl (.tmp 18) (.tmp 21) rfl rfl HOWN.out rfl (fun h => by cases h) HTK.out (by omega) hsz ?_; intro A2 ocap2 w2 h1 h2 h3 h4; have hfar : ¬ (A = some ⟨b, 0, none⟩) := (fun h => by have := own_above HOWN.out b h; omega); have hcell2 := h2.cell hcell hfar; have h1 := Lib.hid h1; have h2 := Lib.hid h2; have h3 := Lib.hid h3; have h4 := Lib.hid h4)
            have hB2 := Lib.hid (HB.out.trans (h2.out.below hsz (own_above HOWN.out)))
            have hconv := conv_bytes w2 A2 (k + i) ocap2 _ (h1.out.rd encB_len) (HBO.out.append (HBY.out.take i))
            rw [hconv]
            go_wp2
            go_ret2
            exact ⟨hB2.out, .inl ⟨_, by rw [HR.out, HS.out, readZ, if_pos rfl, List.drop_of_length_le (by rw [← HX.out.len]; omega)], rfl⟩⟩
          by_cases hx2 : x = 255
          · subst hx2
            have hrest : ∀ w2, Only (fun k => A = some ⟨k, 0, none⟩) wr w2 → RdB w2 (some ⟨b, o, none⟩) (0) (ys.drop (i + 2)) := fun w2 _ =>
              ⟨by rw [List.length_drop, ← HX.out.len]; omega, fun j y hj => by
                have h1 := (List.getElem?_eq_some_iff.1 hj).1
                rw [List.length_drop, ← HX.out.len] at h1; omega⟩
            have HREST := Lib.hid hrest
            clear hrest
            go_wp2_with fail
            refine HIDX.out.mono ?_
            rintro e wr ⟨rfl, rfl⟩
            go_wp2_with (at_builtin; first | (refine app_bytes rfl (.tmp 18) (.tmp 21) rfl rfl HOWN.out rfl (fun h => by cases h) HTK.out (by omega) hsz ?_; intro A2 ocap2 w2 h1 h2 h3 h4; have hfar : ¬ (A = some ⟨b, 0, none⟩) := (fun h => by have := own_above HOWN.out b h; omega); have hcell2 := h2.cell hcell hfar; have h1 := Lib.hid h1; have h2 := Lib.hid h2; have h3 := Lib.hid h3; have h4 := Lib.hid h4; have hB2 := Lib.hid (HB.out.trans (h2.out.below hsz (own_above HOWN.out))); have hsz2 := hB2.out.size) | (refine app_byte rfl (.tmp 43) (.tmp 44) rfl _ rfl h1.out rfl rfl (by omega) hsz2 ?_; intro g3 ocap3 w3 k1 k2 k3 k4; have k1 := Lib.hid k1; have k2 := Lib.hid k2))
            have hB3 := Lib.hid (hB2.out.trans (k2.out.below hsz2 (own_above h1.out)))
            have hfar2 : ¬ (A2 = some ⟨b, 0, none⟩) := (fun h => by have := own_above h1.out b h; omega)
            go_roundg (0)
            case measure => omega
            case rel =>
              exact ⟨o, 0, 0, ys.drop (i + 2), k + i + 1, ocap3, some ⟨g3, 0, none⟩, out ++ ys.take i ++ [0], rfl, rfl, rfl, by omega, by omega, by omega, (HREST.out _ h2.out).only k2.out (fun a ha => by injection ha with ha; subst ha; exact hfar2), HBY.out.drop _, k1, (HBO.out.append (HBY.out.take i)).append (Bytes.one (by omega) (by omega)), hB3, by unfold Hid; rw [HR.out, HS.out]; rfl⟩
          have hno : ∀ t, readV [] xs ≠ some (some t, []) := fun t => by
            rw [HR.out, HS.out, readZ, if_neg hx1]
            split
            · split <;> simp
            · simp
          have HNO := Lib.hid hno
          clear hno
          go_wp2_with fail
          refine HIDX.out.mono ?_
          rintro e wr ⟨rfl, rfl⟩
          go_wp2_with (at_builtin; refine app_bytes rfl (.tmp 18) (.tmp 21) rfl rfl HOWN.out rfl (fun h => by cases h) HTK.out (by omega) hsz ?_; intro A2 ocap2 w2 h1 h2 h3 h4; have hfar : ¬ (A = some ⟨b, 0, none⟩) := (fun h => by have := own_above HOWN.out b h; omega); have hcell2 := h2.cell hcell hfar; have h1 := Lib.hid h1; have h2 := Lib.hid h2; have h3 := Lib.hid h3; have h4 := Lib.hid h4)
          have hB2 := Lib.hid (HB.out.trans (h2.out.below hsz (own_above HOWN.out)))
          go_wp2
          go_ret2
          exact ⟨hB2.out, .inr ⟨HNO.out, _, rfl⟩⟩
        · have hce' : ¬ (cap' : Int) = (i : Int) + 2 := by omega
          by_cases hz : n' = i + 2
          · subst hz
            have hbe : ((i : Int) + 1 == (i : Int) + 2) = false := by rw [beq_eq_false_iff_ne]; omega
            have hi0 : ¬ ((i : Int) < 0) := by omega
            have hii : i + 2 - (i + 2) = 0 := by omega
            by_cases hx1 : x = 1
            · subst hx1
              go_wp2_with fail
              refine HIDX.out.mono ?_
              rintro e wr ⟨rfl, rfl⟩
              go_wp2_with (at_builtin; refine app_bytes rfl (.tmp 18) (.tmp 21) rfl rfl HOWN.out rfl (fun h => by cases h) HTK.out (by omega) hsz ?_; intro A2 ocap2 w2 h1 h2 h3 h4; have hfar : ¬ (A = some ⟨b, 0, none⟩) := (fun h => by have := own_above HOWN.out b h; omega); have hcell2 := h2.cell hcell hfar; have h1 := Lib.hid h1; have h2 := Lib.hid h2; have h3 := Lib.hid h3; have h4 := Lib.hid h4)
              have hB2 := Lib.hid (HB.out.trans (h2.out.below hsz (own_above HOWN.out)))
              have hconv := conv_bytes w2 A2 (k + i) ocap2 _ (h1.out.rd encB_len) (HBO.out.append (HBY.out.take i))
              rw [hconv]
              go_wp2
              go_ret2
              exact ⟨hB2.out, .inl ⟨_, by rw [HR.out, HS.out, readZ, if_pos rfl, List.drop_of_length_le (by rw [← HX.out.len]; omega)], rfl⟩⟩
            by_cases hx2 : x = 255
            · subst hx2
              have hrest : ∀ w2, Only (fun k => A = some ⟨k, 0, none⟩) wr w2 → RdB w2 (some ⟨b, o + (i + 2), none⟩) (0) (ys.drop (i + 2)) := fun w2 _ =>
                ⟨by rw [List.length_drop, ← HX.out.len]; omega, fun j y hj => by
                  have h1 := (List.getElem?_eq_some_iff.1 hj).1
                  rw [List.length_drop, ← HX.out.len] at h1; omega⟩
              have HREST := Lib.hid hrest
              clear hrest
              go_wp2_with fail
              refine HIDX.out.mono ?_
              rintro e wr ⟨rfl, rfl⟩
              go_wp2_with (at_builtin; first | (refine app_bytes rfl (.tmp 18) (.tmp 21) rfl rfl HOWN.out rfl (fun h => by cases h) HTK.out (by omega) hsz ?_; intro A2 ocap2 w2 h1 h2 h3 h4; have hfar : ¬ (A = some ⟨b, 0, none⟩) := (fun h => by have := own_above HOWN.out b h; omega); have hcell2 := h2.cell hcell hfar; have h1 := Lib.hid h1; have h2 := Lib.hid h2; have h3 := Lib.hid h3; have h4 := Lib.hid h4; have hB2 := Lib.hid (HB.out.trans (h2.out.below hsz (own_above HOWN.out))); have hsz2 := hB2.out.size) | (refine app_byte rfl (.tmp 43) (.tmp 44) rfl _ rfl h1.out rfl rfl (by omega) hsz2 ?_; intro g3 ocap3 w3 k1 k2 k3 k4; have k1 := Lib.hid k1; have k2 := Lib.hid k2))
              have hB3 := Lib.hid (hB2.out.trans (k2.out.below hsz2 (own_above h1.out)))
              have hfar2 : ¬ (A2 = some ⟨b, 0, none⟩) := (fun h => by have := own_above h1.out b h; omega)
              go_roundg (0)
              case measure => omega
              case rel =>
                exact ⟨o + (i + 2), 0, cap' - (i + 2), ys.drop (i + 2), k + i + 1, ocap3, some ⟨g3, 0, none⟩, out ++ ys.take i ++ [0], rfl, rfl, rfl, by omega, by omega, by omega, (HREST.out _ h2.out).only k2.out (fun a ha => by injection ha with ha; subst ha; exact hfar2), HBY.out.drop _, k1, (HBO.out.append (HBY.out.take i)).append (Bytes.one (by omega) (by omega)), hB3, by unfold Hid; rw [HR.out, HS.out]; rfl⟩
            have hno : ∀ t, readV [] xs ≠ some (some t, []) := fun t => by
              rw [HR.out, HS.out, readZ, if_neg hx1]
              split
              · split <;> simp
              · simp
            have HNO := Lib.hid hno
            clear hno
            go_wp2_with fail
            refine HIDX.out.mono ?_
            rintro e wr ⟨rfl, rfl⟩
            go_wp2_with (at_builtin; refine app_bytes rfl (.tmp 18) (.tmp 21) rfl rfl HOWN.out rfl (fun h => by cases h) HTK.out (by omega) hsz ?_; intro A2 ocap2 w2 h1 h2 h3 h4; have hfar : ¬ (A = some ⟨b, 0, none⟩) := (fun h => by have := own_above HOWN.out b h; omega); have hcell2 := h2.cell hcell hfar; have h1 := Lib.hid h1; have h2 := Lib.hid h2; have h3 := Lib.hid h3; have h4 := Lib.hid h4)
            have hB2 := Lib.hid (HB.out.trans (h2.out.below hsz (own_above HOWN.out)))
            go_wp2
            go_ret2
            exact ⟨hB2.out, .inr ⟨HNO.out, _, rfl⟩⟩
          · have hbe : ((i : Int) + 1 == (n' : Int)) = false := by rw [beq_eq_false_iff_ne]; omega
            have hi0 : ¬ ((i : Int) < 0) := by omega
            have hz' : (((n' - (i + 2) : Nat) : Int) == 0) = false := by rw [beq_eq_false_iff_ne]; omega
            by_cases hx1 : x = 1
            · subst hx1
              go_wp2_with fail
              refine HIDX.out.mono ?_
              rintro e wr ⟨rfl, rfl⟩
              go_wp2_with (at_builtin; refine app_bytes rfl (.tmp 18) (.tmp 21) rfl rfl HOWN.out rfl (fun h => by cases h) HTK.out (by omega) hsz ?_; intro A2 ocap2 w2 h1 h2 h3 h4; have hfar : ¬ (A = some ⟨b, 0, none⟩) := (fun h => by have := own_above HOWN.out b h; omega); have hcell2 := h2.cell hcell hfar; have h1 := Lib.hid h1; have h2 := Lib.hid h2; have h3 := Lib.hid h3; have h4 := Lib.hid h4)
              have hB2 := Lib.hid (HB.out.trans (h2.out.below hsz (own_above HOWN.out)))
              have hconv := conv_bytes w2 A2 (k + i) ocap2 _ (h1.out.rd encB_len) (HBO.out.append (HBY.out.take i))
              rw [hconv]
              go_wp2
              go_ret2
              exact ⟨hB2.out, .inr ⟨fun t => by
                rw [HR.out, HS.out, readZ, if_pos rfl]
                intro e
                injection e with e
                injection e with _ e
                have := congrArg List.length e
                rw [List.length_drop, ← HX.out.len, List.length_nil] at this
                omega, _, rfl⟩⟩
            by_cases hx2 : x = 255
            · subst hx2
              have hrest : ∀ w2, Only (fun k => A = some ⟨k, 0, none⟩) wr w2 → RdB w2 (some ⟨b, o + (i + 2), none⟩) (n' - (i + 2)) (ys.drop (i + 2)) := fun w2 h2 =>
                (rdb_drop HX.out (i + 2)).only h2 (fun a ha => by injection ha with ha; subst ha; exact fun h => by have := own_above HOWN.out b h; omega)
              have HREST := Lib.hid hrest
              clear hrest
              go_wp2_with fail
              refine HIDX.out.mono ?_
              rintro e wr ⟨rfl, rfl⟩
              go_wp2_with (at_builtin; first | (refine app_bytes rfl (.tmp 18) (.tmp 21) rfl rfl HOWN.out rfl (fun h => by cases h) HTK.out (by omega) hsz ?_; intro A2 ocap2 w2 h1 h2 h3 h4; have hfar : ¬ (A = some ⟨b, 0, none⟩) := (fun h => by have := own_above HOWN.out b h; omega); have hcell2 := h2.cell hcell hfar; have h1 := Lib.hid h1; have h2 := Lib.hid h2; have h3 := Lib.hid h3; have h4 := Lib.hid h4; have hB2 := Lib.hid (HB.out.trans (h2.out.below hsz (own_above HOWN.out))); have hsz2 := hB2.out.size) | (refine app_byte rfl (.tmp 43) (.tmp 44) rfl _ rfl h1.out rfl rfl (by omega) hsz2 ?_; intro g3 ocap3 w3 k1 k2 k3 k4; have k1 := Lib.hid k1; have k2 := Lib.hid k2))
              have hB3 := Lib.hid (hB2.out.trans (k2.out.below hsz2 (own_above h1.out)))
              have hfar2 : ¬ (A2 = some ⟨b, 0, none⟩) := (fun h => by have := own_above h1.out b h; omega)
              go_roundg (n' - (i + 2))
              case measure => omega
              case rel =>
                exact ⟨o + (i + 2), n' - (i + 2), cap' - (i + 2), ys.drop (i + 2), k + i + 1, ocap3, some ⟨g3, 0, none⟩, out ++ ys.take i ++ [0], rfl, rfl, rfl, by omega, by omega, by omega, (HREST.out _ h2.out).only k2.out (fun a ha => by injection ha with ha; subst ha; exact hfar2), HBY.out.drop _, k1, (HBO.out.append (HBY.out.take i)).append (Bytes.one (by omega) (by omega)), hB3, by unfold Hid; rw [HR.out, HS.out]; rfl⟩
            have hno : ∀ t, readV [] xs ≠ some (some t, []) := fun t => by
              rw [HR.out, HS.out, readZ, if_neg hx1]
              split
              · split <;> simp
              · simp
            have HNO := Lib.hid hno
            clear hno
            go_wp2_with fail
            refine HIDX.out.mono ?_
            rintro e wr ⟨rfl, rfl⟩
            go_wp2_with (at_builtin; refine app_bytes rfl (.tmp 18) (.tmp 21) rfl rfl HOWN.out rfl (fun h => by cases h) HTK.out (by omega) hsz ?_; intro A2 ocap2 w2 h1 h2 h3 h4; have hfar : ¬ (A = some ⟨b, 0, none⟩) := (fun h => by have := own_above HOWN.out b h; omega); have hcell2 := h2.cell hcell hfar; have h1 := Lib.hid h1; have h2 := Lib.hid h2; have h3 := Lib.hid h3; have h4 := Lib.hid h4)
            have hB2 := Lib.hid (HB.out.trans (h2.out.below hsz (own_above HOWN.out)))
            go_wp2
            go_ret2
            exact ⟨hB2.out, .inr ⟨HNO.out, _, rfl⟩⟩
end Go.Proofs.YtonghiaocpenaaaGreatDoor
