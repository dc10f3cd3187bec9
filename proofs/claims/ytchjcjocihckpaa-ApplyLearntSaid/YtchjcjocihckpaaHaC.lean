/- Contracts: the lower layers' answers. -/
import Derived.Test.YtchjcjocihckpaaVC
import Derived.Test.YtchjcjocihckpaaPmC
namespace Go.Proofs.Ytchjcjocihckpaa.G
open Go Go.RowKit
section
variable {w : World}
theorem k_ref01_Texts {s t : Sl} {xs ys : List BA} {R : Bool → World → Prop} (hx : Rows w 1 strE s xs) (hy : Rows w 1 strE t ys) (h : ∀ w', Ext w w' → R (decide (xs = ys)) w') :
    Calls PP n_ref01_Texts #[s.v, t.v] w fun e w' => ∃ r : Bool, e = .returned (.bool r) ∧ R r w' := by
  refine vc_ref01_Texts ?_
  unfold VC_ref01_Texts
  have l1 := hx.len
  have l2 := hy.len
  have l3 := hx.lim
  refine ⟨fun hn => ?_, fun hn => ?_⟩
  · have : decide (xs = ys) = false := decide_eq_false fun e => hn (by rw [l1, l2, e])
    exact this ▸ h w (Chg.refl w)
  · refine ⟨fun l w' => ∃ k : Nat, l = k ∧ k ≤ xs.length ∧ Ext w w' ∧ xs.take k = ys.take k, fun l _ => (xs.length - l).toNat, ⟨0, rfl, by omega, Chg.refl w, by simp⟩, ?_⟩
    rintro _ w' ⟨k, rfl, hk, x, ht⟩
    refine ⟨fun hl => ?_, fun hl => ?_⟩
    · obtain ⟨b, o, u, hb, hu, hc⟩ := (hx.ext x).str (i := k) (by omega)
      obtain ⟨b', o', v, hb', hv, hc'⟩ := (hy.ext x).str (i := k) (by omega)
      refine ⟨k, rfl, by omega, b, o, hb, u, hc, by omega, b', o', hb', v, hc', fun hne w2 x2 => ?_, fun he => ⟨k + 1, (wr64 (by omega)).symm, fun w2 x2 => ⟨⟨k + 1, by simp, by omega, x.tr x2, ?_⟩, by dsimp only; omega⟩⟩⟩
      · have : decide (xs = ys) = false := decide_eq_false fun e => hne (by rw [e, hv] at hu; exact (Option.some.inj hu).symm)
        exact this ▸ h w2 (x.tr x2)
      · rw [tk hu, tk hv, ht, Decidable.not_not.1 he]
    · have : decide (xs = ys) = true := decide_eq_true (by rw [← List.take_of_length_le (l := xs) (i := k) (by omega), ht, List.take_of_length_le (by omega)])
      exact this ▸ h w' x
theorem k_ref01_Ints {s t : Sl} {xs ys : List Int} {R : Bool → World → Prop} (hx : Rows w 1 intE s xs) (hy : Rows w 1 intE t ys) (h : ∀ w', Ext w w' → R (decide (xs = ys)) w') :
    Calls PP n_ref01_Ints #[s.v, t.v] w fun e w' => ∃ r : Bool, e = .returned (.bool r) ∧ R r w' := by
  refine vc_ref01_Ints ?_
  unfold VC_ref01_Ints
  have l1 := hx.len
  have l2 := hy.len
  have l3 := hx.lim
  refine ⟨fun hn => ?_, fun hn => ?_⟩
  · have : decide (xs = ys) = false := decide_eq_false fun e => hn (by rw [l1, l2, e])
    exact this ▸ h w (Chg.refl w)
  · refine ⟨fun l w' => ∃ k : Nat, l = k ∧ k ≤ xs.length ∧ Ext w w' ∧ xs.take k = ys.take k, fun l _ => (xs.length - l).toNat, ⟨0, rfl, by omega, Chg.refl w, by simp⟩, ?_⟩
    rintro _ w' ⟨k, rfl, hk, x, ht⟩
    refine ⟨fun hl => ?_, fun hl => ?_⟩
    · obtain ⟨b, o, u, hb, hu, hc⟩ := (hx.ext x).int (i := k) (by omega)
      obtain ⟨b', o', v, hb', hv, hc'⟩ := (hy.ext x).int (i := k) (by omega)
      refine ⟨k, rfl, by omega, b, o, hb, u, hc, by omega, b', o', hb', v, hc', fun hne w2 x2 => ?_, fun he => ⟨k + 1, (wr64 (by omega)).symm, fun w2 x2 => ⟨⟨k + 1, by simp, by omega, x.tr x2, ?_⟩, by dsimp only; omega⟩⟩⟩
      · have : decide (xs = ys) = false := decide_eq_false fun e => hne (by rw [e, hv] at hu; exact (Option.some.inj hu).symm)
        exact this ▸ h w2 (x.tr x2)
      · rw [tk hu, tk hv, ht, Decidable.not_not.1 he]
    · have : decide (xs = ys) = true := decide_eq_true (by rw [← List.take_of_length_le (l := xs) (i := k) (by omega), ht, List.take_of_length_le (by omega)])
      exact this ▸ h w' x
theorem k_ref01_Less {a b : BA} {R : Bool → World → Prop} (ha : a.size ≤ 9223372036854775806) (h : ∀ w', Ext w w' → R (bless a b) w') :
    Calls PP n_ref01_Less #[.string a, .string b] w fun e w' => ∃ r : Bool, e = .returned (.bool r) ∧ R r w' := by
  refine vc_ref01_Less ?_
  unfold VC_ref01_Less
  refine ⟨fun w' => Ext w w' ∧ bless a b = decide (a.size < b.size), ?_, fun l w' => ∃ k : Nat, l = k ∧ k ≤ a.size ∧ k ≤ b.size ∧ Ext w w' ∧ a.data.toList.take k = b.data.toList.take k, fun l _ => (a.size - l).toNat, ⟨0, rfl, by omega, by omega, Chg.refl w, by simp⟩, ?_⟩
  · rintro w' ⟨x, e⟩
    have : decide ((a.size : Int) < (b.size : Int)) = bless a b := by rw [e]; exact decide_eq_decide.2 (by omega)
    exact this ▸ h w' x
  · rintro _ w' ⟨k, rfl, hk, hk2, x, ht⟩
    refine ⟨fun hl => ⟨fun hl2 => ⟨k, rfl, by omega, by omega, fun hne w2 x2 => ?_, fun he => ⟨k + 1, (wr64 (by omega)).symm, fun w2 x2 => ⟨⟨k + 1, by simp, by omega, by omega, x.tr x2, ?_⟩, by dsimp only; omega⟩⟩⟩, fun hl2 => ⟨x, ?_⟩⟩, fun hl => ⟨x, ?_⟩⟩
    · have := ble_ne k ht (ba_at (by omega)) (ba_at (by omega)) (fun e => hne (by rw [e]))
      have e2 : decide (((a.data.toList.getD k 0).toNat : Int) < ((b.data.toList.getD k 0).toNat : Int)) = bless a b := by
        rw [bless, this]; exact decide_eq_decide.2 (by rw [UInt8.lt_iff_toNat_lt]; omega)
      exact e2 ▸ h w2 (x.tr x2)
    · rw [tk (ba_at (by omega : k < a.size)), tk (ba_at (by omega : k < b.size)), ht, UInt8.toNat_inj.1 (by omega : (a.data.toList.getD k 0).toNat = (b.data.toList.getD k 0).toNat)]
    · rw [bless, ble_end k ht (by rw [ba_len, ba_len]; omega) (by rw [ba_len]; omega) (by rw [ba_len]; omega), ba_len, ba_len]
    · rw [bless, ble_end k ht (by rw [ba_len, ba_len]; omega) (by rw [ba_len]; omega) (by rw [ba_len]; omega), ba_len, ba_len]
theorem k_ref18_Great {s : Sl} {ms : List Mg} {most : Int} {R : Bool → World → Prop} (hx : Rows w 2 mgE s ms) (h : ∀ w', Ext w w' → R (great ms most) w') :
    Calls PP n_ref18_Great #[s.v, .int .i64 most] w fun e w' => ∃ r : Bool, e = .returned (.bool r) ∧ R r w' := by
  refine vc_ref18_Great ?_
  unfold VC_ref18_Great
  have l1 := hx.len
  have l3 := hx.lim
  refine ⟨fun l w' => ∃ k : Nat, l = k ∧ k ≤ ms.length ∧ Ext w w' ∧ ((ms.take k).any fun m => decide (300 < m.1.size) || decide (300 < m.2.size)) = false, fun l _ => (ms.length - l).toNat, ⟨0, rfl, by omega, Chg.refl w, by simp⟩, ?_⟩
  rintro _ w' ⟨k, rfl, hk, x, ht⟩
  refine ⟨fun hl => ?_, fun hl => ?_⟩
  · obtain ⟨b, o, m, hb, hm, hc, hc2⟩ := (hx.ext x).mg (i := k) (by omega)
    have hin := gm hm
    refine ⟨k, rfl, by omega, b, o, hb, m.1, hc, fun h3 => ?_, fun h3 => ⟨m.2, hc2, fun h4 => ?_, fun h4 => ⟨k + 1, (wr64 (by omega)).symm, ⟨k + 1, by simp, by omega, x, ?_⟩, by dsimp only; omega⟩⟩⟩
    · have : great ms most = true := by
        unfold great; rw [List.any_eq_true.2 ⟨m, hin, by simp; omega⟩]; rfl
      exact this ▸ h w' x
    · have : great ms most = true := by
        unfold great; rw [List.any_eq_true.2 ⟨m, hin, by simp; omega⟩]; rfl
      exact this ▸ h w' x
    · rw [tk hm, List.any_append, ht]; simp; omega
  · have : decide (most < (s.n : Int)) = great ms most := by
      unfold great; rw [List.take_of_length_le (by omega)] at ht; rw [ht, Bool.false_or]; exact decide_eq_decide.2 (by omega)
    exact this ▸ h w' x
theorem k_ref18_side {s : Sl} {t : BA} {ms : List Mg} {R : Bool → World → Prop} (hx : Rows w 2 mgE s ms) (hm : Sm ms) (h : ∀ w', Ext w w' → R (side t ms) w') :
    Calls PP n_ref18_side #[.string t, s.v] w fun e w' => ∃ r : Bool, e = .returned (.bool r) ∧ R r w' := by
  refine vc_ref18_side ?_
  unfold VC_ref18_side
  have l1 := hx.len
  have l3 := hx.lim
  refine ⟨fun h1 => ?_, fun h1 => ?_⟩
  · have : side t ms = true := by unfold side; simp; omega
    exact this ▸ h w (Chg.refl w)
  refine ⟨fun l w' => ∃ k : Nat, l = k ∧ k ≤ ms.length ∧ Ext w w' ∧ ((ms.take k).any fun m => decide (m.tx = t)) = false, fun l _ => (ms.length - l).toNat, ⟨0, rfl, by omega, Chg.refl w, by simp⟩, ?_⟩
  rintro _ w' ⟨k, rfl, hk, x, ht⟩
  refine ⟨fun hl => ?_, fun hl => ?_⟩
  · obtain ⟨b, o, m, hb, hme, hc, hc2⟩ := (hx.ext x).mg (i := k) (by omega)
    have hin := hm m (gm hme)
    refine ⟨k, rfl, by omega, b, o, hb, m.1, hc, m.2, hc2, by omega, fun h3 w2 x2 => ?_, fun h3 => ⟨k + 1, (wr64 (by omega)).symm, fun w2 x2 => ⟨⟨k + 1, by simp, by omega, x.tr x2, ?_⟩, by dsimp only; omega⟩⟩⟩
    · have : side t ms = true := by
        unfold side; rw [List.any_eq_true.2 ⟨m, gm hme, by simpa using h3⟩]; simp
      exact this ▸ h w2 (x.tr x2)
    · rw [tk hme, List.any_append, ht]; simpa using h3
  · have : side t ms = false := by
      unfold side; rw [List.take_of_length_le (by omega)] at ht; rw [ht]; simp; omega
    exact this ▸ h w' x
end
end Go.Proofs.Ytchjcjocihckpaa.G
