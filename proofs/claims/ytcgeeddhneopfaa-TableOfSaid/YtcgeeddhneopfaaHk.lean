/- The statement TableOf, walked: it answers true. -/
import Derived.Test.YtcgeeddhneopfaaHj
namespace Go.Proofs.Ytcgeeddhneopfaa.G
open Go Go.RowKit
section
variable {w w1 : World}
def awT : List Wd := [(⟨#[97, 98]⟩, 3), (⟨#[98]⟩, 2)]
theorem awT_w : sumZ (awT.map wgt) = 3 := rfl
theorem awT_p : sumZ (awT.map fun x => (x.1.size : Int)) = 3 := rfl
theorem awT_k : ∀ x ∈ awT, 0 ≤ x.2 ∧ x.2 ≤ 9223372036854775807 ∧ x.1.size ≤ 1099511627776 ∧ wgt x ≤ 9223372036854775807 := by
  intro x hx
  simp only [awT, List.mem_cons, List.not_mem_nil, or_false] at hx
  rcases hx with rfl | rfl
  · refine ⟨?_, ?_, ?_, ?_⟩ <;> simp [wgt, ByteArray.size]
  · refine ⟨?_, ?_, ?_, ?_⟩ <;> simp [wgt, ByteArray.size]
theorem k_law08_awake {R : Bool → World → Prop} (h : ∀ w', Ext w w' → R true w') :
    Calls PP n_law08_awake #[] w fun e w' => ∃ r : Bool, e = .returned (.bool r) ∧ R r w' := by
  refine vc_law08_awake ?_
  unfold VC_law08_awake
  intro b w1 hN
  have hx : Rows w1 2 wdE ⟨some ⟨b, 0, none⟩, 2, 2⟩ awT := Rows.lit hN.here wdE_len
  refine k_table_Weight (s := ⟨some ⟨b, 0, none⟩, 2, 2⟩) hx (by simp [awT]) awT_k (by rw [awT_w]; omega) fun w2 x2 => ?_
  rw [awT_w]
  refine ⟨fun _ => ⟨fun _ => ?_, fun h => absurd rfl h⟩, fun h => (nomatch h)⟩
  intro b2 w3 hN2
  have hx : Rows w3 2 wdE ⟨some ⟨b2, 0, none⟩, 2, 2⟩ awT := Rows.lit hN2.here wdE_len
  refine k_table_Positions (s := ⟨some ⟨b2, 0, none⟩, 2, 2⟩) hx (by simp [awT]) (fun x hx => (awT_k x hx).2.2.1) fun w4 x4 => ?_
  rw [awT_p]
  exact h w4 (((hN.ext.tr x2).tr hN2.ext).tr x4)
theorem wgt_bound {x : Wd} {A B : Int} (h0 : 0 ≤ x.2) (h1 : x.2 ≤ A) (h2 : (x.1.size : Int) ≤ B) : 0 ≤ wgt x ∧ wgt x ≤ A * B := by
  unfold wgt
  have h3 : ((x.1.size - 1 : Nat) : Int) ≤ B := by omega
  exact ⟨Int.mul_nonneg h0 (by omega), Int.mul_le_mul h1 h3 (by omega) (by omega)⟩
theorem sumZ_bound {l : List Int} {B : Int} : (∀ x ∈ l, 0 ≤ x ∧ x ≤ B) → 0 ≤ sumZ l ∧ sumZ l ≤ l.length * B := by
  induction l using snoc_ind with
  | h0 => intro _; simp [sumZ]
  | h1 l a ih =>
    intro h
    have := ih fun x hx => h x (List.mem_append_left _ hx)
    have := h a (by simp)
    rw [sumZ_snoc, List.length_append, List.length_singleton, Int.natCast_add, Int.add_mul]
    omega
theorem k_law08_TableOf {s : Sl} {ts : List BA} {a b c : Int} {R : Bool → World → Prop} (hx : Rows w 1 strE s ts) (h : ∀ w', Ext w w' → R true w') :
    Calls PP n_law08_TableOf #[s.v, .agg #[.int .i64 a, .int .i64 b, .int .i64 c]] w fun e w' => ∃ r : Bool, e = .returned (.bool r) ∧ R r w' := by
  refine vc_law08_TableOf ?_
  unfold VC_law08_TableOf
  have l1 := hx.len
  have l3 := hx.lim
  intro g w1 hP
  refine k_law08_awake fun w2 x2 => ⟨x2.keep hP.lt, fun _ => ?_, fun h => (nomatch h)⟩
  have xa := hP.ext.tr x2
  have hg2 := Nat.lt_of_lt_of_le hP.lt x2.size
  refine ⟨fun j w' => Ext w w' ∧ j = decide (100 < ts.length), ?_, fun hb w3 x3 => ⟨xa.tr x3, by symm; rw [decide_eq_true_eq]; omega⟩, fun hb w3 x3 => k_table_Params fun w4 x4 => ⟨x4.keep (Nat.lt_of_lt_of_le hg2 x3.size), k_ref08_Params fun w5 x5 => ⟨x5.keep (Nat.lt_of_lt_of_le hg2 (x3.tr x4).size), ((xa.tr x3).tr x4).tr x5, ?_⟩⟩⟩
  · rintro j w3 ⟨x3, rfl⟩
    refine ⟨fun hj => ?_, fun hj => ?_⟩
    · have hj := of_decide_eq_true hj
      have : decide ((100 : Int) < (s.n : Int)) = true := decide_eq_true (by omega)
      exact this ▸ h w3 x3
    · have hj := of_decide_eq_false hj
      refine ⟨fun i w' => ∃ k : Nat, i = k ∧ k ≤ ts.length ∧ Ext w w' ∧ ∀ t ∈ ts.take k, t.size ≤ 100, fun i _ => (ts.length - i).toNat, ⟨0, rfl, by omega, x3, by simp⟩, ?_⟩
      rintro _ w4 ⟨k, rfl, hk, x4, hsz⟩
      refine ⟨fun hlt => ?_, fun hlt => ?_⟩
      · obtain ⟨b, o, u, hb, hu, hc⟩ := (hx.ext x4).str (i := k) (by omega)
        refine ⟨k, rfl, by omega, b, o, hb, u, hc, fun _ => h w4 x4, fun hne => ⟨k + 1, (wr64 (by omega)).symm, ⟨k + 1, by simp, by omega, x4, ?_⟩, by dsimp only; omega⟩⟩
        rw [tk hu]
        intro t ht
        rcases List.mem_append.1 ht with ht | ht
        · exact hsz t ht
        · rw [List.mem_singleton] at ht; subst ht; omega
      · rw [List.take_of_length_le (by omega)] at hsz
        have hmax : maxLen = 9223372036854775807 := rfl
        refine k_table_Of (hx.ext x4) (by omega) (fun t ht => by have := hsz t ht; omega) (fun he w5 x5 => ?_) fun hne r w5 l x5 ho htb => ?_
        · refine ⟨fun i w' => ∃ k : Nat, i = k ∧ k ≤ ts.length ∧ Ext w w' ∧ ∀ t ∈ ts.take k, t.size ≠ 0, fun i _ => (ts.length - i).toNat, ⟨0, rfl, by omega, x4.tr x5, by simp⟩, ?_⟩
          rintro _ w6 ⟨k, rfl, hk, x6, hnz⟩
          refine ⟨fun hlt => ?_, fun hlt => ?_⟩
          · obtain ⟨b, o, u, hb, hu, hc⟩ := (hx.ext x6).str (i := k) (by omega)
            refine ⟨k, rfl, by omega, b, o, hb, u, hc, fun _ => ⟨fun _ => h w6 x6, fun h => absurd rfl h⟩, fun hne => ⟨k + 1, (wr64 (by omega)).symm, ⟨k + 1, by simp, by omega, x6, ?_⟩, by dsimp only; omega⟩⟩
            rw [tk hu]
            intro t ht
            rcases List.mem_append.1 ht with ht | ht
            · exact hnz t ht
            · rw [List.mem_singleton] at ht; subst ht; exact size_ne.1 hne
          · rw [List.take_of_length_le (by omega)] at hnz
            obtain ⟨t, ht, hz⟩ := he
            exact absurd hz (hnz t ht)
        · refine ⟨fun i w' => ∃ k : Nat, i = k ∧ k ≤ ts.length ∧ Ext w5 w', fun i _ => (ts.length - i).toNat, ⟨0, rfl, by omega, Chg.refl _⟩, ?_⟩
          rintro _ w6 ⟨k, rfl, hk, x6⟩
          refine ⟨fun hlt => ?_, fun hlt => ?_⟩
          · obtain ⟨b, o, u, hb, hu, hc⟩ := (hx.ext ((x4.tr x5).tr x6)).str (i := k) (by omega)
            exact ⟨k, rfl, by omega, b, o, hb, u, hc, fun e => absurd (by rw [e]; rfl) (hne u (gm hu)), fun hne => ⟨k + 1, (wr64 (by omega)).symm, ⟨k + 1, by simp, by omega, x6⟩, by dsimp only; omega⟩⟩
          · have hll := htb.len
            have hprops : ∀ x ∈ l, x.1.size ≠ 0 ∧ 1 ≤ x.2 ∧ x.2 ≤ 100 ∧ x.1.size ≤ 100 ∧ 0 ≤ wgt x ∧ wgt x ≤ 10000 := by
              intro x hxl
              have hm := (htb.mem x.1).1 (List.mem_map.2 ⟨x, hxl, rfl⟩)
              have h1 := hne _ hm
              have h2 := hsz _ hm
              have h3 := htb.ct x hxl
              have h4 := cnt_pos.2 hm
              have h5 := cnt_le ts x.1
              have h6 := wgt_bound (x := x) (A := 100) (B := 100) (by omega) (by omega) (by omega)
              exact ⟨h1, by omega, by omega, h2, h6.1, by omega⟩
            have hsum := sumZ_bound (l := l.map wgt) (B := 10000) fun x hx => by
              obtain ⟨y, hy, rfl⟩ := List.mem_map.1 hx
              exact (hprops y hy).2.2.2.2
            rw [List.length_map] at hsum
            have hr := (ho.ext x6).rows wdE_len (by decide)
            refine k_table_Check_ok hr (by omega) htb.srt (fun x hx => by have := hprops x hx; omega) (by omega) fun w7 x7 => ⟨fun _ => ?_, fun h => absurd rfl h⟩
            have x47 := ((x4.tr x5).tr x6).tr x7
            refine k_ref07_Of (hx.ext x47) (by omega) (fun t ht => ⟨hne t ht, by have := hsz t ht; omega⟩) fun r2 w8 l2 x8 ho2 htb2 => ?_
            refine k_ref07_Same ((hr.ext x7).ext x8) (ho2.rows wdE_len (by decide)) fun w9 x9 => ?_
            have e := htb.unique htb2
            exact ⟨fun _ => ⟨fun _ => h w9 ((x47.tr x8).tr x9), fun h => absurd rfl h⟩, fun hf => absurd e (of_decide_eq_false hf)⟩
  · symm
    rw [decide_eq_decide]
    exact ⟨fun h => by omega, fun h => absurd rfl h⟩
end
end Go.Proofs.Ytcgeeddhneopfaa.G
