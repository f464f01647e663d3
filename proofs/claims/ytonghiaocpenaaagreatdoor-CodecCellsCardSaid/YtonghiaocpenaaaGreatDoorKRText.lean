/-
  (*reader).text: a text with its end.
-/
import Derived.Test.YtonghiaocpenaaaGreatDoorKNeed
namespace Go.Proofs.YtonghiaocpenaaaGreatDoor
open Go.RowKit

def TextOut (lim rb : Nat) (xs : List Int) (w : World) (e : Ending) (w' : World) : Prop :=
  Only (fun k => k = rb) w w' ∧ ((∃ t rest, readV [] xs = some (some t, rest) ∧ e = .returned (.tuple #[.string (ofL t), .bool false]) ∧ RdrAt lim rb rest w' ∧ Bytes t) ∨
    (∃ rest, readV [] xs = some (none, rest) ∧ e = .returned (.tuple #[.string ⟨#[]⟩, .bool true]) ∧ RdrAt lim rb rest w') ∨ (readV [] xs = none ∧ e = .panicked badC))

set_option maxHeartbeats 2000000 in
set_option maxRecDepth 20000 in
theorem rtext_calls (lim rb : Nat) (xs : List Int) (w : World) (h : RdrAt lim rb xs w) (hxs : xs.length ≤ 1000000) : Calls Tryz.prog 61 #[.pointer (some ⟨rb, 0, none⟩)] w (TextOut lim rb xs w) := by
  have hown0 := Own.nil 5 1 encB w w.heap.size
  have hrb : rb < w.heap.size := by
    obtain ⟨A, n, cap, hc, _⟩ := h
    exact lt_of_cell hc
  have HH := Lib.hid h
  have HN := fun w => Lib.hid (need_ok w)
  have HNB := fun w => Lib.hid (need_bad w)
  clear h
  go_enter Tryz.func61, Tryz.ntmps61
  go_wp2_with fail
  go_loopg [4] xs.length (fun gk ov wr => ∃ (ys : List Int) (k cap : Nat) (A : Option Addr) (out : List Int), ov = .slice A k cap ∧ ys.length = gk ∧ k + ys.length ≤ xs.length ∧ Hid (RdrAt lim rb ys wr) ∧ Hid (OwnB wr w.heap.size A k cap out) ∧ Hid (Bytes out) ∧ Hid (Only (fun k => k = rb) w wr) ∧ Hid (readV [] xs = readV out ys))
  case atStart => exact ⟨xs, 0, 0, none, [], rfl, rfl, by omega, HH, hown0, (fun x hx => by cases hx), Only.refl _ _, rfl⟩
  case round =>
    clear HH hown0
    obtain ⟨ys, k, cap, A, out, rfl, rfl, hk, HR, HO, HBO, HON, HV⟩ := hrel
    go_wp2_with fail
    refine (byte_calls lim rb ys wr HR.out).mono ?_
    rintro e w2 (⟨x, r, rfl, rfl, hr2, ho2⟩ | ⟨rfl, rfl, rfl⟩)
    · have HR2 := Lib.hid hr2
      have hsz2 : w.heap.size ≤ w2.heap.size := Nat.le_trans HON.out.size ho2.size
      have HO2 := Lib.hid (HO.out.only ho2 (fun g hg => by have := own_above HO.out g hg; omega))
      have HON2 := Lib.hid (HON.out.trans ho2)
      have hx01 : 0 ≤ x ∧ x < 256 := by
        obtain ⟨_, _, _, _, _, _, hby, _⟩ := HR.out
        exact hby x (by simp)
      obtain ⟨hx0', hx1'⟩ := hx01
      clear hr2 ho2
      by_cases hx0 : x = 0
      · subst hx0
        have HV2 := Lib.hid (HV.out.trans (readV_mark out r))
        go_wp2_with fail
        refine (byte_calls lim rb r w2 HR2.out).mono ?_
        rintro e w3 (⟨d, r2, rfl, rfl, hr3, ho3⟩ | ⟨rfl, rfl, rfl⟩)
        · have HR3 := Lib.hid hr3
          have hsz3 : w.heap.size ≤ w3.heap.size := Nat.le_trans hsz2 ho3.size
          have HO3 := Lib.hid (HO2.out.only ho3 (fun g hg => by have := own_above HO2.out g hg; omega))
          have HON3 := Lib.hid (HON2.out.trans ho3)
          clear hr3 ho3
          by_cases hd1 : d = 1
          · subst hd1
            have hconv := conv_bytes w3 A k cap out (HO3.out.rd encB_len) HBO.out
            go_wp2_with fail
            go_ret2
            exact ⟨HON3.out, .inl ⟨out, r2, by rw [HV2.out, readZ, if_pos rfl], rfl, HR3.out, HBO.out⟩⟩
          by_cases hd0 : d = 0
          · subst hd0
            have hkl := HO3.out.1
            by_cases ho : out = []
            · have HE := Lib.hid ho
              have hk0 : k = 0 := by rw [hkl, ho]; rfl
              subst hk0
              clear ho hkl
              go_wp2_with fail
              refine (HN _).out.mono ?_
              rintro e w3 ⟨rfl, rfl⟩
              go_wp2
              go_ret2
              exact ⟨HON3.out, .inr (.inl ⟨r2, by rw [HV2.out, readZ, if_neg (by decide), if_pos rfl, if_pos HE.out], rfl, HR3.out⟩)⟩
            · have HE := Lib.hid ho
              have hk0 : ((k : Int) == 0) = false := by
                rw [beq_eq_false_iff_ne]
                intro e
                exact ho (List.eq_nil_of_length_eq_zero (by omega))
              clear ho hkl
              go_wp2_with fail
              refine (HNB _).out.mono ?_
              rintro e w3 ⟨rfl, rfl⟩
              exact ⟨rfl, HON3.out, .inr (.inr ⟨by rw [HV2.out, readZ, if_neg (by decide), if_pos rfl, if_neg HE.out], rfl⟩)⟩
          by_cases hd2 : d = 255
          · subst hd2
            go_wp2_with (at_builtin; refine app_byte rfl (.tmp 29) (.tmp 30) rfl _ rfl HO3.out rfl rfl (by simp at hk; omega) hsz3 ?_; intro g4 cap4 w4 k1 k2 k3 k4)
            have HON4 := Lib.hid (HON3.out.trans' k2 (fun i hi => .inr (own_above HO3.out i hi)))
            have HR4 : RdrAt lim rb r2 w4 := by
              obtain ⟨A5, n5, cap5, hc, hf, hx, hb, h1, h2, h3, h4, h5⟩ := HR3.out
              have hfar : ¬ A = some ⟨rb, 0, none⟩ := fun e => by have := own_above HO3.out rb e; omega
              have hrb3 : rb < w3.heap.size := by omega
              refine ⟨A5, n5, cap5, k2.cell hc hfar, ?_, hx.only k2 (fun a ha => ?_), hb, h1, h2, h3, h4, h5⟩
              · rw [← hf]; exact World.frozen?_of_block (k2.block rb hrb3 hfar)
              · rcases h3 with e | ⟨b, o, e, hbl⟩
                · rw [e] at ha; cases ha
                · rw [e] at ha; injection ha with ha; subst ha
                  exact fun e => by have := own_above HO3.out b e; omega
            go_roundg r2.length
            case measure => simp; omega
            case rel => exact ⟨r2, k + 1, cap4, some ⟨g4, 0, none⟩, out ++ [0], rfl, rfl, by simp at hk; omega, HR4, k1, HBO.out.append (Bytes.one (by omega) (by omega)), HON4, by unfold Hid; rw [HV2.out]; rfl⟩
          · go_wp2_with fail
            refine (HNB _).out.mono ?_
            rintro e w3 ⟨rfl, rfl⟩
            exact ⟨rfl, HON3.out, .inr (.inr ⟨by rw [HV2.out, readZ, if_neg hd1, if_neg hd0, if_neg hd2], rfl⟩)⟩
        · exact ⟨rfl, HON2.out, .inr (.inr ⟨by rw [HV2.out]; rfl, rfl⟩)⟩
      · have HV2 := Lib.hid (HV.out.trans (readV_plain hx0))
        go_wp2_with (at_builtin; refine app_byte rfl (.tmp 10) (.tmp 12) rfl _ rfl HO2.out rfl rfl (by simp at hk; omega) hsz2 ?_; intro g4 cap4 w4 k1 k2 k3 k4)
        have HON4 := Lib.hid (HON2.out.trans' k2 (fun i hi => .inr (own_above HO2.out i hi)))
        have HR4 : RdrAt lim rb r w4 := by
          obtain ⟨A5, n5, cap5, hc, hf, hx, hb, h1, h2, h3, h4, h5⟩ := HR2.out
          have hfar : ¬ A = some ⟨rb, 0, none⟩ := fun e => by have := own_above HO2.out rb e; omega
          have hrb3 : rb < w2.heap.size := by omega
          refine ⟨A5, n5, cap5, k2.cell hc hfar, ?_, hx.only k2 (fun a ha => ?_), hb, h1, h2, h3, h4, h5⟩
          · rw [← hf]; exact World.frozen?_of_block (k2.block rb hrb3 hfar)
          · rcases h3 with e | ⟨b, o, e, hbl⟩
            · rw [e] at ha; cases ha
            · rw [e] at ha; injection ha with ha; subst ha
              exact fun e => by have := own_above HO2.out b e; omega
        go_roundg r.length
        case measure => simp
        case rel => exact ⟨r, k + 1, cap4, some ⟨g4, 0, none⟩, out ++ [x], rfl, rfl, by simp at hk; omega, HR4, k1, HBO.out.append (Bytes.one hx0' hx1'), HON4, HV2⟩
    · exact ⟨rfl, HON.out, .inr (.inr ⟨by rw [HV.out]; rfl, rfl⟩)⟩
end Go.Proofs.YtonghiaocpenaaaGreatDoor
