/- Contracts: the checks, by the document's answer and by the table of symbols. -/
import Derived.Test.YtchjcjocihckpaaHaC
namespace Go.Proofs.Ytchjcjocihckpaa.G
open Go Go.RowKit
section
variable {w : World}
theorem k_ref18_Check {s : Sl} {ms : List Mg} {R : Int → Int → World → Prop} (hx : Rows w 2 mgE s ms) (hm : Sm ms) (h : ∀ w', Ext w w' → R (check ms).1 (check ms).2 w') :
    Calls PP n_ref18_Check #[s.v] w fun e w' => ∃ (r : Int) (q : Int), e = .returned (.tuple #[.int .i64 r, .int .i64 q]) ∧ R r q w' := by
  refine vc_ref18_Check ?_
  unfold VC_ref18_Check
  have l1 := hx.len
  have l3 := hx.lim
  have l4 := hx.cap
  refine ⟨fun l w' => ∃ k : Nat, l = k ∧ k ≤ ms.length ∧ Ext w w' ∧ check ms = checkFrom (ms.take k) (ms.drop k), fun l _ => (ms.length - l).toNat, ⟨0, rfl, by omega, Chg.refl w, rfl⟩, ?_⟩
  rintro _ w' ⟨k, rfl, hk, x, ht⟩
  refine ⟨fun hl => ?_, fun hl => ?_⟩
  · obtain ⟨b, o, m, hb, hme, hc, hc2⟩ := (hx.ext x).mg (i := k) (by omega)
    have hin := hm m (gm hme)
    obtain ⟨ba, bz⟩ := check_at hme ht
    refine ⟨fun j w2 => Ext w' w2 ∧ j = (!side m.1 (ms.take k) || !side m.2 (ms.take k)), ?_, k, rfl, by omega, b, o, hb, m.1, hc, ⟨by omega, by omega⟩, fun w3 x3 => ?_⟩
    · rintro j w2 ⟨x2, rfl⟩
      refine ⟨fun hj => ?_, fun hj => ⟨k, rfl, by omega, b, o, hb, m.1, x2.cell hc, m.2, x2.cell hc2, _, rfl, ?_, ?_⟩⟩
      · have hbd : bad (ms.take k) m = 7 := by unfold bad; rw [if_pos hj]
        have := ba (by rw [hbd]; decide)
        rw [hbd] at this
        have := h w2 (x.tr x2)
        rw [‹check ms = _›] at this; exact this
      · intro hz w3 x3
        rw [wr64 (by omega)] at hz
        have hbd : bad (ms.take k) m = 4 := by unfold bad; rw [if_neg (by simp [hj]), if_pos (by omega)]
        have := ba (by rw [hbd]; decide)
        rw [hbd] at this
        have := h w3 ((x.tr x2).tr x3)
        rw [‹check ms = _›] at this; exact this
      · intro hz w3 x3
        rw [wr64 (by omega)] at hz
        have x0 := (x.tr x2).tr x3
        have e7 : ¬ (!side m.1 (ms.take k) || !side m.2 (ms.take k)) = true := by simp [hj]
        refine ⟨fun l w4 => ∃ i : Nat, l = i ∧ i ≤ k ∧ Ext w w4 ∧ ((ms.take i).any fun q => decide (q.tx = m.tx)) = false, fun l _ => (k - l).toNat, ⟨0, rfl, by omega, x0, by simp⟩, ?_⟩
        rintro _ w4 ⟨i, rfl, hi, x4, hn⟩
        refine ⟨fun hl2 => ?_, fun hl2 => ?_⟩
        · obtain ⟨b', o', m', hb', hme', hd, hd2⟩ := (hx.ext x4).mg (i := i) (by omega)
          obtain ⟨b'', o'', m'', hb'', hme'', hf, hf2⟩ := (hx.ext x4).mg (i := k) (by omega)
          rw [hb] at hb' hb''; cases hb'; cases hb''
          rw [hme] at hme''; cases hme''
          have hin' := hm m' (gm hme')
          refine ⟨i, rfl, by omega, b, o, hb, m'.1, hd, m'.2, hd2, by omega, by omega, m.1, hf, m.2, hf2, by omega, fun heq w5 x5 => ?_, fun hne => ⟨i + 1, (wr64 (by omega)).symm, fun w5 x5 => ⟨⟨i + 1, by simp, by omega, x4.tr x5, ?_⟩, by dsimp only; omega⟩⟩⟩
          · have hbd : bad (ms.take k) m = 8 := by
              unfold bad
              rw [if_neg e7, if_neg (by omega), if_pos (List.any_eq_true.2 ⟨m', ?_, decide_eq_true heq⟩)]
              exact List.mem_of_getElem? (i := i) (by rw [List.getElem?_take_of_lt (by omega)]; exact hme')
            have := ba (by rw [hbd]; decide)
            rw [hbd] at this
            have := h w5 (x4.tr x5)
            rw [‹check ms = _›] at this; exact this
          · rw [tk hme', List.any_append, hn]; simpa using hne
        · have : i = k := by omega
          subst this
          have hbd : bad (ms.take i) m = 0 := by
            unfold bad
            rw [if_neg e7, if_neg (by omega), if_neg (by rw [hn]; simp)]
          exact ⟨i + 1, (wr64 (by omega)).symm, ⟨i + 1, by simp, by omega, x4, bz hbd⟩, by dsimp only; omega⟩
    · have hr : Rows w3 2 mgE (s.sub 0 k 2) (ms.take k) := ((hx.ext x).ext x3).take (by omega)
      refine k_ref18_side hr (hm.take k) fun w4 x4 => ⟨(x3.tr x4).cell hc, fun h1 => ⟨⟨by omega, by omega⟩, m.2, (x3.tr x4).cell hc2, ?_⟩, fun h1 => ⟨x3.tr x4, by rw [h1]; rfl⟩⟩
      exact k_ref18_side (hr.ext x4) (hm.take k) fun w5 x5 => ⟨((x3.tr x4).tr x5).cell hc, (x3.tr x4).tr x5, by rw [h1]; rfl⟩
  · have := h w' x
    rw [check_end (by omega) ht] at this; exact this
end
end Go.Proofs.Ytchjcjocihckpaa.G
