/- What is to be shown of each function, and that it is enough. -/
import Derived.Test.YtchjcjocihckpaaT
set_option linter.unusedVariables false
namespace Go.Proofs.Ytchjcjocihckpaa.G
open Go Go.RowKit
def VC_law20_ApplyCodes (a0 : Sl) (a1 : ByteArray) (a2 : Sl) (a3 : Sl) (R : Bool → World → Prop) (w : World) : Prop :=
  Calls PP n_law20_awake #[] w (fun e w2 => ∃ r5 : Bool, e = .returned (.bool r5) ∧ ((r5 = true → (Calls PP n_ref18_Great #[a0.v, .int .i64 60] w2 (fun e w8 => ∃ r11 : Bool, e = .returned (.bool r11) ∧ ((r11 = true → (R true w8)) ∧ (r11 = false → (((200 : Int) < ((a1.size : Nat) : Int) → (R true w8)) ∧ (¬ ((200 : Int) < ((a1.size : Nat) : Int)) → (((100 : Int) < ((a2.n : Nat) : Int) → (R true w8)) ∧ (¬ ((100 : Int) < ((a2.n : Nat) : Int)) → (Calls PP n_ref07_Great #[a3.v, .int .i64 20] w8 (fun e w16 => ∃ r19 : Bool, e = .returned (.bool r19) ∧ ((r19 = true → (R true w16)) ∧ (r19 = false → (Calls PP n_apply_New #[a0.v] w16 (fun e w22 => ∃ r25_0 : Option Addr, ∃ r25_1 : Int, e = .returned (.tuple #[.pointer r25_0, .int .i64 r25_1]) ∧ (Calls PP n_ref18_Check #[a0.v] w22 (fun e w27 => ∃ r30_0 : Int, ∃ r30_1 : Int, e = .returned (.tuple #[.int .i64 r30_0, .int .i64 r30_1]) ∧ ((r25_1 ≠ r30_1 → (R false w27)) ∧ (¬ (r25_1 ≠ r30_1) → (((decide (r25_0 = none)) ≠ (decide (r30_1 ≠ (0 : Int))) → (R false w27)) ∧ (¬ ((decide (r25_0 = none)) ≠ (decide (r30_1 ≠ (0 : Int)))) → ((r30_1 ≠ (0 : Int) → (R true w27)) ∧ (¬ (r30_1 ≠ (0 : Int)) → ((r25_0 = none → (R true w27)) ∧ (¬ (r25_0 = none) → (Calls PP n_apply_Coder_Decode #[.pointer r25_0, a2.v] w27 (fun e w36 => ∃ r39_0 : ByteArray, ∃ r39_1 : Bool, e = .returned (.tuple #[.string r39_0, .bool r39_1]) ∧ (Calls PP n_ref20_Decode #[a0.v, a2.v] w36 (fun e w41 => ∃ r44_0 : ByteArray, ∃ r44_1 : Bool, e = .returned (.tuple #[.string r44_0, .bool r44_1]) ∧ (Calls PP n_apply_Coder_Count #[.pointer r25_0, a3.v] w41 (fun e w46 => ∃ r49_0 : Int, ∃ r49_1 : Bool, e = .returned (.tuple #[.int .i64 r49_0, .bool r49_1]) ∧ (Calls PP n_ref20_Count #[a0.v, a3.v] w46 (fun e w51 => ∃ r54_0 : Int, ∃ r54_1 : Bool, e = .returned (.tuple #[.int .i64 r54_0, .bool r54_1]) ∧ (Calls PP n_apply_Coder_Split #[.pointer r25_0, .string a1] w51 (fun e w56 => ∃ r59 : Sl, e = .returned (r59.v) ∧ (Calls PP n_ref20_Split #[a0.v, .string a1] w56 (fun e w61 => ∃ r64 : Sl, e = .returned (r64.v) ∧ (Calls PP n_ref01_Texts #[r59.v, r64.v] w61 (fun e w66 => ∃ r69 : Bool, e = .returned (.bool r69) ∧ ((r69 = true → (Calls PP n_apply_Coder_Encode #[.pointer r25_0, .string a1] w66 (fun e w72 => ∃ r75 : Sl, e = .returned (r75.v) ∧ (Calls PP n_ref20_Encode #[a0.v, .string a1] w72 (fun e w77 => ∃ r80 : Sl, e = .returned (r80.v) ∧ (Calls PP n_ref01_Ints #[r75.v, r80.v] w77 (fun e w82 => ∃ r85 : Bool, e = .returned (.bool r85) ∧ ((r85 = true → ((r39_0 = r44_0 → ((r39_1 = r44_1 → ((r49_0 = r54_0 → ((r49_1 = r54_1 → (Calls PP n_apply_Coder_Size #[.pointer r25_0] w82 (fun e w92 => ∃ r95 : Int, e = .returned (.int .i64 r95) ∧ (∃ z96 : Int, z96 = IntKind.wrap .i64 (256 + ((a0.n : Nat) : Int)) ∧ (R (decide (r95 = z96)) w92))))) ∧ (¬ (r49_1 = r54_1) → (R false w82)))) ∧ (¬ (r49_0 = r54_0) → (R false w82)))) ∧ (¬ (r39_1 = r44_1) → (R false w82)))) ∧ (¬ (r39_0 = r44_0) → (R false w82)))) ∧ (r85 = false → (R false w82)))))))))) ∧ (r69 = false → (R false w66)))))))))))))))))))))))))))))))))))))))))) ∧ (r5 = false → (R false w2))))
set_option maxRecDepth 100000 in
theorem vc_law20_ApplyCodes {a0 : Sl} {a1 : ByteArray} {a2 : Sl} {a3 : Sl} {R : Bool → World → Prop} {w : World} (h : VC_law20_ApplyCodes a0 a1 a2 a3 R w) : Calls PP n_law20_ApplyCodes #[a0.v, .string a1, a2.v, a3.v] w fun e w' => ∃ r0 : Bool, e = .returned (.bool r0) ∧ R r0 w' := by
  refine Calls.mono (calls_of_cw (n := 133) (rs := #[.tmp 8]) (args := [a0.v, .string a1, a2.v, a3.v]) (R := fun v w' => ∃ r0 : Bool, v = .bool r0 ∧ R r0 w') Try.func6 rfl rfl (Nat.le_of_ble_eq_true rfl) rfl ?_) ?_
  case refine_2 => rintro e w' ⟨v, rfl, hr⟩; obtain ⟨r0, rfl, hr⟩ := hr; exact ⟨r0, rfl, hr⟩
  have hx : Ext w w := Chg.refl _
  unfold VC_law20_ApplyCodes at h
  refine cw_seq ?_
  refine cw_region ?_
  refine sl_v rfl (r_as rfl) ?_
  refine sl_nil ?_
  refine cw_seq ?_
  refine cw_seq ?_
  refine cw_region ?_
  refine sl_op rfl (ok_call c_law20_awake rfl (Calls.mono h (fun e1 w2 hq3 => ?_)))
  clear h
  obtain ⟨r5, he4, h⟩ := hq3
  refine ⟨_, he4, ?_⟩
  replace hx : Ext w2 w2 := Chg.refl _
  refine sl_v rfl (r_not rfl) ?_
  refine sl_nil ?_
  refine bcases (r5) (fun hb6 => ?_) (fun hb6 => ?_)
  · replace h := h.1 hb6
    refine cw_cf rfl (nt hb6) ?_
    refine cw_skip ?_
    refine cw_seq ?_
    refine cw_seq ?_
    refine cw_region ?_
    refine sl_v rfl (r_mv rfl) ?_
    refine sl_op rfl (ok_call c_ref18_Great rfl (Calls.mono h (fun e7 w8 hq9 => ?_)))
    clear h
    obtain ⟨r11, he10, h⟩ := hq9
    refine ⟨_, he10, ?_⟩
    replace hx : Ext w8 w8 := Chg.refl _
    refine sl_v rfl (r_mv rfl) ?_
    refine bcases (r11) (fun hb12 => ?_) (fun hb12 => ?_)
    · replace h := h.1 hb12
      refine sl_no rfl rfl rfl hb12 ?_
      refine sl_no rfl rfl rfl hb12 ?_
      refine sl_no rfl rfl rfl hb12 ?_
      refine sl_v rfl (r_pt rfl hb12 rfl) ?_
      refine sl_v rfl (r_mv rfl) ?_
      refine sl_no rfl rfl rfl rfl ?_
      refine sl_no rfl rfl rfl rfl ?_
      refine sl_no rfl rfl rfl rfl ?_
      refine sl_v rfl (r_pt rfl rfl rfl) ?_
      refine sl_v rfl (r_mv rfl) ?_
      refine sl_no rfl rfl rfl rfl ?_
      refine sl_no rfl rfl rfl rfl ?_
      refine sl_v rfl (r_pt rfl rfl rfl) ?_
      refine sl_nil ?_
      refine cw_ct rfl rfl ?_
      refine cw_seq ?_
      refine cw_region ?_
      refine sl_v rfl (r_as rfl) ?_
      refine sl_nil ?_
      refine cw_ret ?_
      exact rs_1 (rt rfl) ⟨true, rfl, h⟩
    · replace h := h.2 hb12
      refine sl_vg rfl rfl rfl hb12 (r_mv rfl) ?_
      refine sl_vg rfl rfl rfl hb12 (r_len_s rfl rfl Try.underlying9) ?_
      refine sl_vg rfl rfl rfl hb12 (r_gtr rfl rfl) ?_
      refine sl_v rfl (r_pf rfl hb12 rfl) ?_
      refine sl_v rfl (r_mv rfl) ?_
      refine bcases (decide ((200 : Int) < ((a1.size : Nat) : Int))) (fun hb13 => ?_) (fun hb13 => ?_)
      · replace h := h.1 (of_decide_eq_true hb13)
        refine sl_no rfl rfl rfl hb13 ?_
        refine sl_no rfl rfl rfl hb13 ?_
        refine sl_no rfl rfl rfl hb13 ?_
        refine sl_v rfl (r_pt rfl hb13 rfl) ?_
        refine sl_v rfl (r_mv rfl) ?_
        refine sl_no rfl rfl rfl rfl ?_
        refine sl_no rfl rfl rfl rfl ?_
        refine sl_v rfl (r_pt rfl rfl rfl) ?_
        refine sl_nil ?_
        refine cw_ct rfl rfl ?_
        refine cw_seq ?_
        refine cw_region ?_
        refine sl_v rfl (r_as rfl) ?_
        refine sl_nil ?_
        refine cw_ret ?_
        exact rs_1 (rt rfl) ⟨true, rfl, h⟩
      · replace h := h.2 (of_decide_eq_false hb13)
        refine sl_vg rfl rfl rfl hb13 (r_mv rfl) ?_
        refine sl_vg rfl rfl rfl hb13 (r_len_l (s := a2) rfl rfl Try.underlying58) ?_
        refine sl_vg rfl rfl rfl hb13 (r_gtr rfl rfl) ?_
        refine sl_v rfl (r_pf rfl hb13 rfl) ?_
        refine sl_v rfl (r_mv rfl) ?_
        refine bcases (decide ((100 : Int) < ((a2.n : Nat) : Int))) (fun hb14 => ?_) (fun hb14 => ?_)
        · replace h := h.1 (of_decide_eq_true hb14)
          refine sl_no rfl rfl rfl hb14 ?_
          refine sl_no rfl rfl rfl hb14 ?_
          refine sl_v rfl (r_pt rfl hb14 rfl) ?_
          refine sl_nil ?_
          refine cw_ct rfl rfl ?_
          refine cw_seq ?_
          refine cw_region ?_
          refine sl_v rfl (r_as rfl) ?_
          refine sl_nil ?_
          refine cw_ret ?_
          exact rs_1 (rt rfl) ⟨true, rfl, h⟩
        · replace h := h.2 (of_decide_eq_false hb14)
          refine sl_vg rfl rfl rfl hb14 (r_mv rfl) ?_
          refine sl_g rfl rfl rfl hb14 (ok_call c_ref07_Great rfl (Calls.mono h (fun e15 w16 hq17 => ?_)))
          clear h
          obtain ⟨r19, he18, h⟩ := hq17
          refine ⟨_, he18, ?_⟩
          replace hx : Ext w16 w16 := Chg.refl _
          refine sl_v rfl (r_pf rfl hb14 rfl) ?_
          refine sl_nil ?_
          refine bcases (r19) (fun hb20 => ?_) (fun hb20 => ?_)
          · replace h := h.1 hb20
            refine cw_ct rfl hb20 ?_
            refine cw_seq ?_
            refine cw_region ?_
            refine sl_v rfl (r_as rfl) ?_
            refine sl_nil ?_
            refine cw_ret ?_
            exact rs_1 (rt rfl) ⟨true, rfl, h⟩
          · replace h := h.2 hb20
            refine cw_cf rfl hb20 ?_
            refine cw_skip ?_
            refine cw_seq ?_
            refine cw_region ?_
            refine sl_v rfl (r_mv rfl) ?_
            refine sl_op rfl (ok_call c_apply_New rfl (Calls.mono h (fun e21 w22 hq23 => ?_)))
            clear h
            obtain ⟨r25_0, r25_1, he24, h⟩ := hq23
            refine ⟨_, he24, ?_⟩
            replace hx : Ext w22 w22 := Chg.refl _
            refine sl_v rfl (r_mv rfl) ?_
            refine sl_v rfl (r_ex rfl rfl) ?_
            refine sl_v rfl (r_ex rfl rfl) ?_
            refine sl_v rfl (r_as rfl) ?_
            refine sl_v rfl (r_as rfl) ?_
            refine sl_nil ?_
            refine cw_seq ?_
            refine cw_region ?_
            refine sl_v rfl (r_mv rfl) ?_
            refine sl_op rfl (ok_call c_ref18_Check rfl (Calls.mono h (fun e26 w27 hq28 => ?_)))
            clear h
            obtain ⟨r30_0, r30_1, he29, h⟩ := hq28
            refine ⟨_, he29, ?_⟩
            replace hx : Ext w27 w27 := Chg.refl _
            refine sl_v rfl (r_mv rfl) ?_
            refine sl_v rfl (r_ex rfl rfl) ?_
            refine sl_v rfl (r_ex rfl rfl) ?_
            refine sl_v rfl (r_as rfl) ?_
            refine sl_v rfl (r_as rfl) ?_
            refine sl_nil ?_
            refine cw_seq ?_
            refine cw_seq ?_
            refine cw_region ?_
            refine sl_v rfl (r_mv rfl) ?_
            refine sl_v rfl (r_mv rfl) ?_
            refine sl_v rfl (r_neq rfl rfl) ?_
            refine sl_v rfl (r_mv rfl) ?_
            refine bcases (decide (r25_1 ≠ r30_1)) (fun hb31 => ?_) (fun hb31 => ?_)
            · replace h := h.1 (of_decide_eq_true hb31)
              refine sl_no rfl rfl rfl hb31 ?_
              refine sl_no rfl rfl rfl hb31 ?_
              refine sl_no rfl rfl rfl hb31 ?_
              refine sl_no rfl rfl rfl hb31 ?_
              refine sl_no rfl rfl rfl hb31 ?_
              refine sl_v rfl (r_pt rfl hb31 rfl) ?_
              refine sl_nil ?_
              refine cw_ct rfl rfl ?_
              refine cw_seq ?_
              refine cw_region ?_
              refine sl_v rfl (r_as rfl) ?_
              refine sl_nil ?_
              refine cw_ret ?_
              exact rs_1 (rt rfl) ⟨false, rfl, h⟩
            · replace h := h.2 (of_decide_eq_false hb31)
              refine sl_vg rfl rfl rfl hb31 (r_mv rfl) ?_
              refine sl_vg rfl rfl rfl hb31 (p_eqn rfl rfl Try.underlying50) ?_
              refine sl_vg rfl rfl rfl hb31 (r_mv rfl) ?_
              refine sl_vg rfl rfl rfl hb31 (r_neq rfl rfl) ?_
              refine sl_vg rfl rfl rfl hb31 (b_neq rfl rfl Try.underlying4) ?_
              refine sl_v rfl (r_pf rfl hb31 rfl) ?_
              refine sl_nil ?_
              refine bcases (decide ((decide (r25_0 = none)) ≠ (decide (r30_1 ≠ (0 : Int))))) (fun hb32 => ?_) (fun hb32 => ?_)
              · replace h := h.1 (of_decide_eq_true hb32)
                refine cw_ct rfl hb32 ?_
                refine cw_seq ?_
                refine cw_region ?_
                refine sl_v rfl (r_as rfl) ?_
                refine sl_nil ?_
                refine cw_ret ?_
                exact rs_1 (rt rfl) ⟨false, rfl, h⟩
              · replace h := h.2 (of_decide_eq_false hb32)
                refine cw_cf rfl hb32 ?_
                refine cw_skip ?_
                refine cw_seq ?_
                refine cw_seq ?_
                refine cw_region ?_
                refine sl_v rfl (r_mv rfl) ?_
                refine sl_v rfl (r_neq rfl rfl) ?_
                refine sl_v rfl (r_mv rfl) ?_
                refine bcases (decide (r30_1 ≠ (0 : Int))) (fun hb33 => ?_) (fun hb33 => ?_)
                · replace h := h.1 (of_decide_eq_true hb33)
                  refine sl_no rfl rfl rfl hb33 ?_
                  refine sl_no rfl rfl rfl hb33 ?_
                  refine sl_v rfl (r_pt rfl hb33 rfl) ?_
                  refine sl_nil ?_
                  refine cw_ct rfl rfl ?_
                  refine cw_seq ?_
                  refine cw_region ?_
                  refine sl_v rfl (r_as rfl) ?_
                  refine sl_nil ?_
                  refine cw_ret ?_
                  exact rs_1 (rt rfl) ⟨true, rfl, h⟩
                · replace h := h.2 (of_decide_eq_false hb33)
                  refine sl_vg rfl rfl rfl hb33 (r_mv rfl) ?_
                  refine sl_vg rfl rfl rfl hb33 (p_eqn rfl rfl Try.underlying50) ?_
                  refine sl_v rfl (r_pf rfl hb33 rfl) ?_
                  refine sl_nil ?_
                  refine bcases (decide (r25_0 = none)) (fun hb34 => ?_) (fun hb34 => ?_)
                  · replace h := h.1 (of_decide_eq_true hb34)
                    refine cw_ct rfl hb34 ?_
                    refine cw_seq ?_
                    refine cw_region ?_
                    refine sl_v rfl (r_as rfl) ?_
                    refine sl_nil ?_
                    refine cw_ret ?_
                    exact rs_1 (rt rfl) ⟨true, rfl, h⟩
                  · replace h := h.2 (of_decide_eq_false hb34)
                    refine cw_cf rfl hb34 ?_
                    refine cw_skip ?_
                    refine cw_seq ?_
                    refine cw_region ?_
                    refine sl_v rfl (r_mv rfl) ?_
                    refine sl_v rfl (r_mv rfl) ?_
                    refine sl_op rfl (ok_call c_apply_Coder_Decode rfl (Calls.mono h (fun e35 w36 hq37 => ?_)))
                    clear h
                    obtain ⟨r39_0, r39_1, he38, h⟩ := hq37
                    refine ⟨_, he38, ?_⟩
                    replace hx : Ext w36 w36 := Chg.refl _
                    refine sl_v rfl (r_mv rfl) ?_
                    refine sl_v rfl (r_ex rfl rfl) ?_
                    refine sl_v rfl (r_ex rfl rfl) ?_
                    refine sl_v rfl (r_as rfl) ?_
                    refine sl_v rfl (r_as rfl) ?_
                    refine sl_nil ?_
                    refine cw_seq ?_
                    refine cw_region ?_
                    refine sl_v rfl (r_mv rfl) ?_
                    refine sl_v rfl (r_mv rfl) ?_
                    refine sl_op rfl (ok_call c_ref20_Decode rfl (Calls.mono h (fun e40 w41 hq42 => ?_)))
                    clear h
                    obtain ⟨r44_0, r44_1, he43, h⟩ := hq42
                    refine ⟨_, he43, ?_⟩
                    replace hx : Ext w41 w41 := Chg.refl _
                    refine sl_v rfl (r_mv rfl) ?_
                    refine sl_v rfl (r_ex rfl rfl) ?_
                    refine sl_v rfl (r_ex rfl rfl) ?_
                    refine sl_v rfl (r_as rfl) ?_
                    refine sl_v rfl (r_as rfl) ?_
                    refine sl_nil ?_
                    refine cw_seq ?_
                    refine cw_region ?_
                    refine sl_v rfl (r_mv rfl) ?_
                    refine sl_v rfl (r_mv rfl) ?_
                    refine sl_op rfl (ok_call c_apply_Coder_Count rfl (Calls.mono h (fun e45 w46 hq47 => ?_)))
                    clear h
                    obtain ⟨r49_0, r49_1, he48, h⟩ := hq47
                    refine ⟨_, he48, ?_⟩
                    replace hx : Ext w46 w46 := Chg.refl _
                    refine sl_v rfl (r_mv rfl) ?_
                    refine sl_v rfl (r_ex rfl rfl) ?_
                    refine sl_v rfl (r_ex rfl rfl) ?_
                    refine sl_v rfl (r_as rfl) ?_
                    refine sl_v rfl (r_as rfl) ?_
                    refine sl_nil ?_
                    refine cw_seq ?_
                    refine cw_region ?_
                    refine sl_v rfl (r_mv rfl) ?_
                    refine sl_v rfl (r_mv rfl) ?_
                    refine sl_op rfl (ok_call c_ref20_Count rfl (Calls.mono h (fun e50 w51 hq52 => ?_)))
                    clear h
                    obtain ⟨r54_0, r54_1, he53, h⟩ := hq52
                    refine ⟨_, he53, ?_⟩
                    replace hx : Ext w51 w51 := Chg.refl _
                    refine sl_v rfl (r_mv rfl) ?_
                    refine sl_v rfl (r_ex rfl rfl) ?_
                    refine sl_v rfl (r_ex rfl rfl) ?_
                    refine sl_v rfl (r_as rfl) ?_
                    refine sl_v rfl (r_as rfl) ?_
                    refine sl_nil ?_
                    refine cw_seq ?_
                    refine cw_region ?_
                    refine sl_v rfl (r_mv rfl) ?_
                    refine sl_v rfl (r_mv rfl) ?_
                    refine sl_op rfl (ok_call c_apply_Coder_Split rfl (Calls.mono h (fun e55 w56 hq57 => ?_)))
                    clear h
                    obtain ⟨r59, he58, h⟩ := hq57
                    refine ⟨_, he58, ?_⟩
                    replace hx : Ext w56 w56 := Chg.refl _
                    refine sl_v rfl (r_mv rfl) ?_
                    refine sl_v rfl (r_mv rfl) ?_
                    refine sl_op rfl (ok_call c_ref20_Split rfl (Calls.mono h (fun e60 w61 hq62 => ?_)))
                    clear h
                    obtain ⟨r64, he63, h⟩ := hq62
                    refine ⟨_, he63, ?_⟩
                    replace hx : Ext w61 w61 := Chg.refl _
                    refine sl_op rfl (ok_call c_ref01_Texts rfl (Calls.mono h (fun e65 w66 hq67 => ?_)))
                    clear h
                    obtain ⟨r69, he68, h⟩ := hq67
                    refine ⟨_, he68, ?_⟩
                    replace hx : Ext w66 w66 := Chg.refl _
                    refine sl_v rfl (r_mv rfl) ?_
                    refine bcases (r69) (fun hb70 => ?_) (fun hb70 => ?_)
                    · replace h := h.1 hb70
                      refine sl_vg rfl rfl rfl hb70 (r_mv rfl) ?_
                      refine sl_vg rfl rfl rfl hb70 (r_mv rfl) ?_
                      refine sl_g rfl rfl rfl hb70 (ok_call c_apply_Coder_Encode rfl (Calls.mono h (fun e71 w72 hq73 => ?_)))
                      clear h
                      obtain ⟨r75, he74, h⟩ := hq73
                      refine ⟨_, he74, ?_⟩
                      replace hx : Ext w72 w72 := Chg.refl _
                      refine sl_vg rfl rfl rfl hb70 (r_mv rfl) ?_
                      refine sl_vg rfl rfl rfl hb70 (r_mv rfl) ?_
                      refine sl_g rfl rfl rfl hb70 (ok_call c_ref20_Encode rfl (Calls.mono h (fun e76 w77 hq78 => ?_)))
                      clear h
                      obtain ⟨r80, he79, h⟩ := hq78
                      refine ⟨_, he79, ?_⟩
                      replace hx : Ext w77 w77 := Chg.refl _
                      refine sl_g rfl rfl rfl hb70 (ok_call c_ref01_Ints rfl (Calls.mono h (fun e81 w82 hq83 => ?_)))
                      clear h
                      obtain ⟨r85, he84, h⟩ := hq83
                      refine ⟨_, he84, ?_⟩
                      replace hx : Ext w82 w82 := Chg.refl _
                      refine sl_v rfl (r_pt rfl hb70 rfl) ?_
                      refine sl_v rfl (r_mv rfl) ?_
                      refine bcases (r85) (fun hb86 => ?_) (fun hb86 => ?_)
                      · replace h := h.1 hb86
                        refine sl_vg rfl rfl rfl hb86 (r_mv rfl) ?_
                        refine sl_vg rfl rfl rfl hb86 (r_mv rfl) ?_
                        refine sl_vg rfl rfl rfl hb86 (s_eql rfl rfl) ?_
                        refine sl_v rfl (r_pt rfl hb86 rfl) ?_
                        refine sl_v rfl (r_mv rfl) ?_
                        refine bcases (decide (r39_0 = r44_0)) (fun hb87 => ?_) (fun hb87 => ?_)
                        · replace h := h.1 (of_decide_eq_true hb87)
                          refine sl_vg rfl rfl rfl hb87 (r_mv rfl) ?_
                          refine sl_vg rfl rfl rfl hb87 (r_mv rfl) ?_
                          refine sl_vg rfl rfl rfl hb87 (b_eql rfl rfl Try.underlying4) ?_
                          refine sl_v rfl (r_pt rfl hb87 rfl) ?_
                          refine sl_v rfl (r_mv rfl) ?_
                          refine bcases (decide (r39_1 = r44_1)) (fun hb88 => ?_) (fun hb88 => ?_)
                          · replace h := h.1 (of_decide_eq_true hb88)
                            refine sl_vg rfl rfl rfl hb88 (r_mv rfl) ?_
                            refine sl_vg rfl rfl rfl hb88 (r_mv rfl) ?_
                            refine sl_vg rfl rfl rfl hb88 (r_eql rfl rfl) ?_
                            refine sl_v rfl (r_pt rfl hb88 rfl) ?_
                            refine sl_v rfl (r_mv rfl) ?_
                            refine bcases (decide (r49_0 = r54_0)) (fun hb89 => ?_) (fun hb89 => ?_)
                            · replace h := h.1 (of_decide_eq_true hb89)
                              refine sl_vg rfl rfl rfl hb89 (r_mv rfl) ?_
                              refine sl_vg rfl rfl rfl hb89 (r_mv rfl) ?_
                              refine sl_vg rfl rfl rfl hb89 (b_eql rfl rfl Try.underlying4) ?_
                              refine sl_v rfl (r_pt rfl hb89 rfl) ?_
                              refine sl_v rfl (r_mv rfl) ?_
                              refine bcases (decide (r49_1 = r54_1)) (fun hb90 => ?_) (fun hb90 => ?_)
                              · replace h := h.1 (of_decide_eq_true hb90)
                                refine sl_vg rfl rfl rfl hb90 (r_mv rfl) ?_
                                refine sl_g rfl rfl rfl hb90 (ok_call c_apply_Coder_Size rfl (Calls.mono h (fun e91 w92 hq93 => ?_)))
                                clear h
                                obtain ⟨r95, he94, h⟩ := hq93
                                refine ⟨_, he94, ?_⟩
                                replace hx : Ext w92 w92 := Chg.refl _
                                refine sl_vg rfl rfl rfl hb90 (r_mv rfl) ?_
                                refine sl_vg rfl rfl rfl hb90 (r_len_l (s := a0) rfl rfl Try.underlying22) ?_
                                obtain ⟨z96, hz96, h⟩ := h
                                refine sl_vg rfl rfl rfl hb90 (r_add rfl rfl hz96) ?_
                                refine sl_vg rfl rfl rfl hb90 (r_eql rfl rfl) ?_
                                refine sl_v rfl (r_pt rfl hb90 rfl) ?_
                                refine sl_v rfl (r_as rfl) ?_
                                refine sl_nil ?_
                                refine cw_ret ?_
                                exact rs_1 (rt rfl) ⟨decide (r95 = z96), rfl, h⟩
                              · replace h := h.2 (of_decide_eq_false hb90)
                                refine sl_no rfl rfl rfl hb90 ?_
                                refine sl_no rfl rfl rfl hb90 ?_
                                refine sl_no rfl rfl rfl hb90 ?_
                                refine sl_no rfl rfl rfl hb90 ?_
                                refine sl_no rfl rfl rfl hb90 ?_
                                refine sl_no rfl rfl rfl hb90 ?_
                                refine sl_v rfl (r_pf rfl hb90 rfl) ?_
                                refine sl_v rfl (r_as rfl) ?_
                                refine sl_nil ?_
                                refine cw_ret ?_
                                exact rs_1 (rt rfl) ⟨false, rfl, h⟩
                            · replace h := h.2 (of_decide_eq_false hb89)
                              refine sl_no rfl rfl rfl hb89 ?_
                              refine sl_no rfl rfl rfl hb89 ?_
                              refine sl_no rfl rfl rfl hb89 ?_
                              refine sl_v rfl (r_pf rfl hb89 rfl) ?_
                              refine sl_v rfl (r_mv rfl) ?_
                              refine sl_no rfl rfl rfl rfl ?_
                              refine sl_no rfl rfl rfl rfl ?_
                              refine sl_no rfl rfl rfl rfl ?_
                              refine sl_no rfl rfl rfl rfl ?_
                              refine sl_no rfl rfl rfl rfl ?_
                              refine sl_no rfl rfl rfl rfl ?_
                              refine sl_v rfl (r_pf rfl rfl rfl) ?_
                              refine sl_v rfl (r_as rfl) ?_
                              refine sl_nil ?_
                              refine cw_ret ?_
                              exact rs_1 (rt rfl) ⟨false, rfl, h⟩
                          · replace h := h.2 (of_decide_eq_false hb88)
                            refine sl_no rfl rfl rfl hb88 ?_
                            refine sl_no rfl rfl rfl hb88 ?_
                            refine sl_no rfl rfl rfl hb88 ?_
                            refine sl_v rfl (r_pf rfl hb88 rfl) ?_
                            refine sl_v rfl (r_mv rfl) ?_
                            refine sl_no rfl rfl rfl rfl ?_
                            refine sl_no rfl rfl rfl rfl ?_
                            refine sl_no rfl rfl rfl rfl ?_
                            refine sl_v rfl (r_pf rfl rfl rfl) ?_
                            refine sl_v rfl (r_mv rfl) ?_
                            refine sl_no rfl rfl rfl rfl ?_
                            refine sl_no rfl rfl rfl rfl ?_
                            refine sl_no rfl rfl rfl rfl ?_
                            refine sl_no rfl rfl rfl rfl ?_
                            refine sl_no rfl rfl rfl rfl ?_
                            refine sl_no rfl rfl rfl rfl ?_
                            refine sl_v rfl (r_pf rfl rfl rfl) ?_
                            refine sl_v rfl (r_as rfl) ?_
                            refine sl_nil ?_
                            refine cw_ret ?_
                            exact rs_1 (rt rfl) ⟨false, rfl, h⟩
                        · replace h := h.2 (of_decide_eq_false hb87)
                          refine sl_no rfl rfl rfl hb87 ?_
                          refine sl_no rfl rfl rfl hb87 ?_
                          refine sl_no rfl rfl rfl hb87 ?_
                          refine sl_v rfl (r_pf rfl hb87 rfl) ?_
                          refine sl_v rfl (r_mv rfl) ?_
                          refine sl_no rfl rfl rfl rfl ?_
                          refine sl_no rfl rfl rfl rfl ?_
                          refine sl_no rfl rfl rfl rfl ?_
                          refine sl_v rfl (r_pf rfl rfl rfl) ?_
                          refine sl_v rfl (r_mv rfl) ?_
                          refine sl_no rfl rfl rfl rfl ?_
                          refine sl_no rfl rfl rfl rfl ?_
                          refine sl_no rfl rfl rfl rfl ?_
                          refine sl_v rfl (r_pf rfl rfl rfl) ?_
                          refine sl_v rfl (r_mv rfl) ?_
                          refine sl_no rfl rfl rfl rfl ?_
                          refine sl_no rfl rfl rfl rfl ?_
                          refine sl_no rfl rfl rfl rfl ?_
                          refine sl_no rfl rfl rfl rfl ?_
                          refine sl_no rfl rfl rfl rfl ?_
                          refine sl_no rfl rfl rfl rfl ?_
                          refine sl_v rfl (r_pf rfl rfl rfl) ?_
                          refine sl_v rfl (r_as rfl) ?_
                          refine sl_nil ?_
                          refine cw_ret ?_
                          exact rs_1 (rt rfl) ⟨false, rfl, h⟩
                      · replace h := h.2 hb86
                        refine sl_no rfl rfl rfl hb86 ?_
                        refine sl_no rfl rfl rfl hb86 ?_
                        refine sl_no rfl rfl rfl hb86 ?_
                        refine sl_v rfl (r_pf rfl hb86 rfl) ?_
                        refine sl_v rfl (r_mv rfl) ?_
                        refine sl_no rfl rfl rfl rfl ?_
                        refine sl_no rfl rfl rfl rfl ?_
                        refine sl_no rfl rfl rfl rfl ?_
                        refine sl_v rfl (r_pf rfl rfl rfl) ?_
                        refine sl_v rfl (r_mv rfl) ?_
                        refine sl_no rfl rfl rfl rfl ?_
                        refine sl_no rfl rfl rfl rfl ?_
                        refine sl_no rfl rfl rfl rfl ?_
                        refine sl_v rfl (r_pf rfl rfl rfl) ?_
                        refine sl_v rfl (r_mv rfl) ?_
                        refine sl_no rfl rfl rfl rfl ?_
                        refine sl_no rfl rfl rfl rfl ?_
                        refine sl_no rfl rfl rfl rfl ?_
                        refine sl_v rfl (r_pf rfl rfl rfl) ?_
                        refine sl_v rfl (r_mv rfl) ?_
                        refine sl_no rfl rfl rfl rfl ?_
                        refine sl_no rfl rfl rfl rfl ?_
                        refine sl_no rfl rfl rfl rfl ?_
                        refine sl_no rfl rfl rfl rfl ?_
                        refine sl_no rfl rfl rfl rfl ?_
                        refine sl_no rfl rfl rfl rfl ?_
                        refine sl_v rfl (r_pf rfl rfl rfl) ?_
                        refine sl_v rfl (r_as rfl) ?_
                        refine sl_nil ?_
                        refine cw_ret ?_
                        exact rs_1 (rt rfl) ⟨false, rfl, h⟩
                    · replace h := h.2 hb70
                      refine sl_no rfl rfl rfl hb70 ?_
                      refine sl_no rfl rfl rfl hb70 ?_
                      refine sl_no rfl rfl rfl hb70 ?_
                      refine sl_no rfl rfl rfl hb70 ?_
                      refine sl_no rfl rfl rfl hb70 ?_
                      refine sl_no rfl rfl rfl hb70 ?_
                      refine sl_no rfl rfl rfl hb70 ?_
                      refine sl_v rfl (r_pf rfl hb70 rfl) ?_
                      refine sl_v rfl (r_mv rfl) ?_
                      refine sl_no rfl rfl rfl rfl ?_
                      refine sl_no rfl rfl rfl rfl ?_
                      refine sl_no rfl rfl rfl rfl ?_
                      refine sl_v rfl (r_pf rfl rfl rfl) ?_
                      refine sl_v rfl (r_mv rfl) ?_
                      refine sl_no rfl rfl rfl rfl ?_
                      refine sl_no rfl rfl rfl rfl ?_
                      refine sl_no rfl rfl rfl rfl ?_
                      refine sl_v rfl (r_pf rfl rfl rfl) ?_
                      refine sl_v rfl (r_mv rfl) ?_
                      refine sl_no rfl rfl rfl rfl ?_
                      refine sl_no rfl rfl rfl rfl ?_
                      refine sl_no rfl rfl rfl rfl ?_
                      refine sl_v rfl (r_pf rfl rfl rfl) ?_
                      refine sl_v rfl (r_mv rfl) ?_
                      refine sl_no rfl rfl rfl rfl ?_
                      refine sl_no rfl rfl rfl rfl ?_
                      refine sl_no rfl rfl rfl rfl ?_
                      refine sl_v rfl (r_pf rfl rfl rfl) ?_
                      refine sl_v rfl (r_mv rfl) ?_
                      refine sl_no rfl rfl rfl rfl ?_
                      refine sl_no rfl rfl rfl rfl ?_
                      refine sl_no rfl rfl rfl rfl ?_
                      refine sl_no rfl rfl rfl rfl ?_
                      refine sl_no rfl rfl rfl rfl ?_
                      refine sl_no rfl rfl rfl rfl ?_
                      refine sl_v rfl (r_pf rfl rfl rfl) ?_
                      refine sl_v rfl (r_as rfl) ?_
                      refine sl_nil ?_
                      refine cw_ret ?_
                      exact rs_1 (rt rfl) ⟨false, rfl, h⟩
  · replace h := h.2 hb6
    refine cw_ct rfl (nf hb6) ?_
    refine cw_seq ?_
    refine cw_region ?_
    refine sl_v rfl (r_as rfl) ?_
    refine sl_nil ?_
    refine cw_ret ?_
    exact rs_1 (rt rfl) ⟨false, rfl, h⟩

def VC_law20_ApplyBack (a0 : Sl) (a1 : ByteArray) (R : Bool → World → Prop) (w : World) : Prop :=
  Calls PP n_law20_awake #[] w (fun e w2 => ∃ r5 : Bool, e = .returned (.bool r5) ∧ ((r5 = true → (Calls PP n_ref18_Great #[a0.v, .int .i64 60] w2 (fun e w8 => ∃ r11 : Bool, e = .returned (.bool r11) ∧ ((r11 = true → (R true w8)) ∧ (r11 = false → (((200 : Int) < ((a1.size : Nat) : Int) → (R true w8)) ∧ (¬ ((200 : Int) < ((a1.size : Nat) : Int)) → (Calls PP n_apply_Coder_Decode #[.pointer none, .slice none 0 0] w8 (fun e w15 => ∃ r18_0 : ByteArray, ∃ r18_1 : Bool, e = .returned (.tuple #[.string r18_0, .bool r18_1]) ∧ (Calls PP n_apply_Coder_Count #[.pointer none, .slice none 0 0] w15 (fun e w20 => ∃ r23_0 : Int, ∃ r23_1 : Bool, e = .returned (.tuple #[.int .i64 r23_0, .bool r23_1]) ∧ (Calls PP n_apply_Coder_Split #[.pointer none, .string a1] w20 (fun e w25 => ∃ r28 : Sl, e = .returned (r28.v) ∧ ((((r28.n : Nat) : Int) ≠ (0 : Int) → (R false w25)) ∧ (¬ (((r28.n : Nat) : Int) ≠ (0 : Int)) → (Calls PP n_apply_Coder_Encode #[.pointer none, .string a1] w25 (fun e w31 => ∃ r34 : Sl, e = .returned (r34.v) ∧ ((((r34.n : Nat) : Int) ≠ (0 : Int) → (R false w31)) ∧ (¬ (((r34.n : Nat) : Int) ≠ (0 : Int)) → ((r18_0 ≠ (⟨#[]⟩ : ByteArray) → (R false w31)) ∧ (¬ (r18_0 ≠ (⟨#[]⟩ : ByteArray)) → ((r18_1 = true → (R false w31)) ∧ (r18_1 = false → (Calls PP n_apply_Coder_Size #[.pointer none] w31 (fun e w39 => ∃ r42 : Int, e = .returned (.int .i64 r42) ∧ ((r42 ≠ (0 : Int) → (R false w39)) ∧ (¬ (r42 ≠ (0 : Int)) → ((r23_0 ≠ (0 : Int) → (R false w39)) ∧ (¬ (r23_0 ≠ (0 : Int)) → ((r23_1 = true → (R false w39)) ∧ (r23_1 = false → (Calls PP n_apply_New #[a0.v] w39 (fun e w47 => ∃ r50_0 : Option Addr, ∃ r50_1 : Int, e = .returned (.tuple #[.pointer r50_0, .int .i64 r50_1]) ∧ (∃ K52 : Bool → World → Prop, (∀ (j51 : Bool) (w54 : World), K52 j51 w54 → ((j51 = true → ((r50_1 ≠ (0 : Int) → (R (decide (r50_0 = none)) w54)) ∧ (¬ (r50_1 ≠ (0 : Int)) → (R false w54)))) ∧ (j51 = false → (Calls PP n_apply_Coder_Encode #[.pointer r50_0, .string a1] w54 (fun e w61 => ∃ r64 : Sl, e = .returned (r64.v) ∧ (Calls PP n_apply_Coder_Decode #[.pointer r50_0, r64.v] w61 (fun e w66 => ∃ r69_0 : ByteArray, ∃ r69_1 : Bool, e = .returned (.tuple #[.string r69_0, .bool r69_1]) ∧ ((r69_1 = true → ((r69_0 = a1 → (R (decide (((r64.n : Nat) : Int) ≤ ((a1.size : Nat) : Int))) w66)) ∧ (¬ (r69_0 = a1) → (R false w66)))) ∧ (r69_1 = false → (R false w66)))))))))) ∧ ((r50_1 ≠ (0 : Int) → (K52 true w47)) ∧ (¬ (r50_1 ≠ (0 : Int)) → (K52 (decide (r50_0 = none)) w47))))))))))))))))))))))))))))))))))))) ∧ (r5 = false → (R false w2))))
set_option maxRecDepth 100000 in
theorem vc_law20_ApplyBack {a0 : Sl} {a1 : ByteArray} {R : Bool → World → Prop} {w : World} (h : VC_law20_ApplyBack a0 a1 R w) : Calls PP n_law20_ApplyBack #[a0.v, .string a1] w fun e w' => ∃ r0 : Bool, e = .returned (.bool r0) ∧ R r0 w' := by
  refine Calls.mono (calls_of_cw (n := 104) (rs := #[.tmp 4]) (args := [a0.v, .string a1]) (R := fun v w' => ∃ r0 : Bool, v = .bool r0 ∧ R r0 w') Try.func7 rfl rfl (Nat.le_of_ble_eq_true rfl) rfl ?_) ?_
  case refine_2 => rintro e w' ⟨v, rfl, hr⟩; obtain ⟨r0, rfl, hr⟩ := hr; exact ⟨r0, rfl, hr⟩
  have hx : Ext w w := Chg.refl _
  unfold VC_law20_ApplyBack at h
  refine cw_seq ?_
  refine cw_region ?_
  refine sl_v rfl (r_as rfl) ?_
  refine sl_nil ?_
  refine cw_seq ?_
  refine cw_seq ?_
  refine cw_region ?_
  refine sl_op rfl (ok_call c_law20_awake rfl (Calls.mono h (fun e1 w2 hq3 => ?_)))
  clear h
  obtain ⟨r5, he4, h⟩ := hq3
  refine ⟨_, he4, ?_⟩
  replace hx : Ext w2 w2 := Chg.refl _
  refine sl_v rfl (r_not rfl) ?_
  refine sl_nil ?_
  refine bcases (r5) (fun hb6 => ?_) (fun hb6 => ?_)
  · replace h := h.1 hb6
    refine cw_cf rfl (nt hb6) ?_
    refine cw_skip ?_
    refine cw_seq ?_
    refine cw_seq ?_
    refine cw_region ?_
    refine sl_v rfl (r_mv rfl) ?_
    refine sl_op rfl (ok_call c_ref18_Great rfl (Calls.mono h (fun e7 w8 hq9 => ?_)))
    clear h
    obtain ⟨r11, he10, h⟩ := hq9
    refine ⟨_, he10, ?_⟩
    replace hx : Ext w8 w8 := Chg.refl _
    refine sl_v rfl (r_mv rfl) ?_
    refine bcases (r11) (fun hb12 => ?_) (fun hb12 => ?_)
    · replace h := h.1 hb12
      refine sl_no rfl rfl rfl hb12 ?_
      refine sl_no rfl rfl rfl hb12 ?_
      refine sl_no rfl rfl rfl hb12 ?_
      refine sl_v rfl (r_pt rfl hb12 rfl) ?_
      refine sl_nil ?_
      refine cw_ct rfl rfl ?_
      refine cw_seq ?_
      refine cw_region ?_
      refine sl_v rfl (r_as rfl) ?_
      refine sl_nil ?_
      refine cw_ret ?_
      exact rs_1 (rt rfl) ⟨true, rfl, h⟩
    · replace h := h.2 hb12
      refine sl_vg rfl rfl rfl hb12 (r_mv rfl) ?_
      refine sl_vg rfl rfl rfl hb12 (r_len_s rfl rfl Try.underlying9) ?_
      refine sl_vg rfl rfl rfl hb12 (r_gtr rfl rfl) ?_
      refine sl_v rfl (r_pf rfl hb12 rfl) ?_
      refine sl_nil ?_
      refine bcases (decide ((200 : Int) < ((a1.size : Nat) : Int))) (fun hb13 => ?_) (fun hb13 => ?_)
      · replace h := h.1 (of_decide_eq_true hb13)
        refine cw_ct rfl hb13 ?_
        refine cw_seq ?_
        refine cw_region ?_
        refine sl_v rfl (r_as rfl) ?_
        refine sl_nil ?_
        refine cw_ret ?_
        exact rs_1 (rt rfl) ⟨true, rfl, h⟩
      · replace h := h.2 (of_decide_eq_false hb13)
        refine cw_cf rfl hb13 ?_
        refine cw_skip ?_
        refine cw_seq ?_
        refine cw_region ?_
        refine sl_v rfl (r_as rfl) ?_
        refine sl_nil ?_
        refine cw_seq ?_
        refine cw_region ?_
        refine sl_v rfl (r_mv rfl) ?_
        refine sl_op rfl (ok_call c_apply_Coder_Decode rfl (Calls.mono h (fun e14 w15 hq16 => ?_)))
        clear h
        obtain ⟨r18_0, r18_1, he17, h⟩ := hq16
        refine ⟨_, he17, ?_⟩
        replace hx : Ext w15 w15 := Chg.refl _
        refine sl_v rfl (r_mv rfl) ?_
        refine sl_v rfl (r_ex rfl rfl) ?_
        refine sl_v rfl (r_ex rfl rfl) ?_
        refine sl_v rfl (r_as rfl) ?_
        refine sl_v rfl (r_as rfl) ?_
        refine sl_nil ?_
        refine cw_seq ?_
        refine cw_region ?_
        refine sl_v rfl (r_mv rfl) ?_
        refine sl_op rfl (ok_call c_apply_Coder_Count rfl (Calls.mono h (fun e19 w20 hq21 => ?_)))
        clear h
        obtain ⟨r23_0, r23_1, he22, h⟩ := hq21
        refine ⟨_, he22, ?_⟩
        replace hx : Ext w20 w20 := Chg.refl _
        refine sl_v rfl (r_mv rfl) ?_
        refine sl_v rfl (r_ex rfl rfl) ?_
        refine sl_v rfl (r_ex rfl rfl) ?_
        refine sl_v rfl (r_as rfl) ?_
        refine sl_v rfl (r_as rfl) ?_
        refine sl_nil ?_
        refine cw_seq ?_
        refine cw_seq ?_
        refine cw_region ?_
        refine sl_v rfl (r_mv rfl) ?_
        refine sl_v rfl (r_mv rfl) ?_
        refine sl_op rfl (ok_call c_apply_Coder_Split rfl (Calls.mono h (fun e24 w25 hq26 => ?_)))
        clear h
        obtain ⟨r28, he27, h⟩ := hq26
        refine ⟨_, he27, ?_⟩
        replace hx : Ext w25 w25 := Chg.refl _
        refine sl_v rfl (r_len_l (s := r28) rfl rfl Try.underlying37) ?_
        refine sl_v rfl (r_neq rfl rfl) ?_
        refine sl_v rfl (r_mv rfl) ?_
        refine bcases (decide (((r28.n : Nat) : Int) ≠ (0 : Int))) (fun hb29 => ?_) (fun hb29 => ?_)
        · replace h := h.1 (of_decide_eq_true hb29)
          refine sl_no rfl rfl rfl hb29 ?_
          refine sl_no rfl rfl rfl hb29 ?_
          refine sl_no rfl rfl rfl hb29 ?_
          refine sl_no rfl rfl rfl hb29 ?_
          refine sl_no rfl rfl rfl hb29 ?_
          refine sl_v rfl (r_pt rfl hb29 rfl) ?_
          refine sl_v rfl (r_mv rfl) ?_
          refine sl_no rfl rfl rfl rfl ?_
          refine sl_no rfl rfl rfl rfl ?_
          refine sl_v rfl (r_pt rfl rfl rfl) ?_
          refine sl_v rfl (r_mv rfl) ?_
          refine sl_no rfl rfl rfl rfl ?_
          refine sl_v rfl (r_pt rfl rfl rfl) ?_
          refine sl_v rfl (r_mv rfl) ?_
          refine sl_no rfl rfl rfl rfl ?_
          refine sl_no rfl rfl rfl rfl ?_
          refine sl_no rfl rfl rfl rfl ?_
          refine sl_v rfl (r_pt rfl rfl rfl) ?_
          refine sl_v rfl (r_mv rfl) ?_
          refine sl_no rfl rfl rfl rfl ?_
          refine sl_no rfl rfl rfl rfl ?_
          refine sl_v rfl (r_pt rfl rfl rfl) ?_
          refine sl_v rfl (r_mv rfl) ?_
          refine sl_no rfl rfl rfl rfl ?_
          refine sl_v rfl (r_pt rfl rfl rfl) ?_
          refine sl_nil ?_
          refine cw_ct rfl rfl ?_
          refine cw_seq ?_
          refine cw_region ?_
          refine sl_v rfl (r_as rfl) ?_
          refine sl_nil ?_
          refine cw_ret ?_
          exact rs_1 (rt rfl) ⟨false, rfl, h⟩
        · replace h := h.2 (of_decide_eq_false hb29)
          refine sl_vg rfl rfl rfl hb29 (r_mv rfl) ?_
          refine sl_vg rfl rfl rfl hb29 (r_mv rfl) ?_
          refine sl_g rfl rfl rfl hb29 (ok_call c_apply_Coder_Encode rfl (Calls.mono h (fun e30 w31 hq32 => ?_)))
          clear h
          obtain ⟨r34, he33, h⟩ := hq32
          refine ⟨_, he33, ?_⟩
          replace hx : Ext w31 w31 := Chg.refl _
          refine sl_vg rfl rfl rfl hb29 (r_len_l (s := r34) rfl rfl Try.underlying58) ?_
          refine sl_vg rfl rfl rfl hb29 (r_neq rfl rfl) ?_
          refine sl_v rfl (r_pf rfl hb29 rfl) ?_
          refine sl_v rfl (r_mv rfl) ?_
          refine bcases (decide (((r34.n : Nat) : Int) ≠ (0 : Int))) (fun hb35 => ?_) (fun hb35 => ?_)
          · replace h := h.1 (of_decide_eq_true hb35)
            refine sl_no rfl rfl rfl hb35 ?_
            refine sl_no rfl rfl rfl hb35 ?_
            refine sl_v rfl (r_pt rfl hb35 rfl) ?_
            refine sl_v rfl (r_mv rfl) ?_
            refine sl_no rfl rfl rfl rfl ?_
            refine sl_v rfl (r_pt rfl rfl rfl) ?_
            refine sl_v rfl (r_mv rfl) ?_
            refine sl_no rfl rfl rfl rfl ?_
            refine sl_no rfl rfl rfl rfl ?_
            refine sl_no rfl rfl rfl rfl ?_
            refine sl_v rfl (r_pt rfl rfl rfl) ?_
            refine sl_v rfl (r_mv rfl) ?_
            refine sl_no rfl rfl rfl rfl ?_
            refine sl_no rfl rfl rfl rfl ?_
            refine sl_v rfl (r_pt rfl rfl rfl) ?_
            refine sl_v rfl (r_mv rfl) ?_
            refine sl_no rfl rfl rfl rfl ?_
            refine sl_v rfl (r_pt rfl rfl rfl) ?_
            refine sl_nil ?_
            refine cw_ct rfl rfl ?_
            refine cw_seq ?_
            refine cw_region ?_
            refine sl_v rfl (r_as rfl) ?_
            refine sl_nil ?_
            refine cw_ret ?_
            exact rs_1 (rt rfl) ⟨false, rfl, h⟩
          · replace h := h.2 (of_decide_eq_false hb35)
            refine sl_vg rfl rfl rfl hb35 (r_mv rfl) ?_
            refine sl_vg rfl rfl rfl hb35 (s_neq rfl rfl) ?_
            refine sl_v rfl (r_pf rfl hb35 rfl) ?_
            refine sl_v rfl (r_mv rfl) ?_
            refine bcases (decide (r18_0 ≠ (⟨#[]⟩ : ByteArray))) (fun hb36 => ?_) (fun hb36 => ?_)
            · replace h := h.1 (of_decide_eq_true hb36)
              refine sl_no rfl rfl rfl hb36 ?_
              refine sl_v rfl (r_pt rfl hb36 rfl) ?_
              refine sl_v rfl (r_mv rfl) ?_
              refine sl_no rfl rfl rfl rfl ?_
              refine sl_no rfl rfl rfl rfl ?_
              refine sl_no rfl rfl rfl rfl ?_
              refine sl_v rfl (r_pt rfl rfl rfl) ?_
              refine sl_v rfl (r_mv rfl) ?_
              refine sl_no rfl rfl rfl rfl ?_
              refine sl_no rfl rfl rfl rfl ?_
              refine sl_v rfl (r_pt rfl rfl rfl) ?_
              refine sl_v rfl (r_mv rfl) ?_
              refine sl_no rfl rfl rfl rfl ?_
              refine sl_v rfl (r_pt rfl rfl rfl) ?_
              refine sl_nil ?_
              refine cw_ct rfl rfl ?_
              refine cw_seq ?_
              refine cw_region ?_
              refine sl_v rfl (r_as rfl) ?_
              refine sl_nil ?_
              refine cw_ret ?_
              exact rs_1 (rt rfl) ⟨false, rfl, h⟩
            · replace h := h.2 (of_decide_eq_false hb36)
              refine sl_vg rfl rfl rfl hb36 (r_mv rfl) ?_
              refine sl_v rfl (r_pf rfl hb36 rfl) ?_
              refine sl_v rfl (r_mv rfl) ?_
              refine bcases (r18_1) (fun hb37 => ?_) (fun hb37 => ?_)
              · replace h := h.1 hb37
                refine sl_no rfl rfl rfl hb37 ?_
                refine sl_no rfl rfl rfl hb37 ?_
                refine sl_no rfl rfl rfl hb37 ?_
                refine sl_v rfl (r_pt rfl hb37 rfl) ?_
                refine sl_v rfl (r_mv rfl) ?_
                refine sl_no rfl rfl rfl rfl ?_
                refine sl_no rfl rfl rfl rfl ?_
                refine sl_v rfl (r_pt rfl rfl rfl) ?_
                refine sl_v rfl (r_mv rfl) ?_
                refine sl_no rfl rfl rfl rfl ?_
                refine sl_v rfl (r_pt rfl rfl rfl) ?_
                refine sl_nil ?_
                refine cw_ct rfl rfl ?_
                refine cw_seq ?_
                refine cw_region ?_
                refine sl_v rfl (r_as rfl) ?_
                refine sl_nil ?_
                refine cw_ret ?_
                exact rs_1 (rt rfl) ⟨false, rfl, h⟩
              · replace h := h.2 hb37
                refine sl_vg rfl rfl rfl hb37 (r_mv rfl) ?_
                refine sl_g rfl rfl rfl hb37 (ok_call c_apply_Coder_Size rfl (Calls.mono h (fun e38 w39 hq40 => ?_)))
                clear h
                obtain ⟨r42, he41, h⟩ := hq40
                refine ⟨_, he41, ?_⟩
                replace hx : Ext w39 w39 := Chg.refl _
                refine sl_vg rfl rfl rfl hb37 (r_neq rfl rfl) ?_
                refine sl_v rfl (r_pf rfl hb37 rfl) ?_
                refine sl_v rfl (r_mv rfl) ?_
                refine bcases (decide (r42 ≠ (0 : Int))) (fun hb43 => ?_) (fun hb43 => ?_)
                · replace h := h.1 (of_decide_eq_true hb43)
                  refine sl_no rfl rfl rfl hb43 ?_
                  refine sl_no rfl rfl rfl hb43 ?_
                  refine sl_v rfl (r_pt rfl hb43 rfl) ?_
                  refine sl_v rfl (r_mv rfl) ?_
                  refine sl_no rfl rfl rfl rfl ?_
                  refine sl_v rfl (r_pt rfl rfl rfl) ?_
                  refine sl_nil ?_
                  refine cw_ct rfl rfl ?_
                  refine cw_seq ?_
                  refine cw_region ?_
                  refine sl_v rfl (r_as rfl) ?_
                  refine sl_nil ?_
                  refine cw_ret ?_
                  exact rs_1 (rt rfl) ⟨false, rfl, h⟩
                · replace h := h.2 (of_decide_eq_false hb43)
                  refine sl_vg rfl rfl rfl hb43 (r_mv rfl) ?_
                  refine sl_vg rfl rfl rfl hb43 (r_neq rfl rfl) ?_
                  refine sl_v rfl (r_pf rfl hb43 rfl) ?_
                  refine sl_v rfl (r_mv rfl) ?_
                  refine bcases (decide (r23_0 ≠ (0 : Int))) (fun hb44 => ?_) (fun hb44 => ?_)
                  · replace h := h.1 (of_decide_eq_true hb44)
                    refine sl_no rfl rfl rfl hb44 ?_
                    refine sl_v rfl (r_pt rfl hb44 rfl) ?_
                    refine sl_nil ?_
                    refine cw_ct rfl rfl ?_
                    refine cw_seq ?_
                    refine cw_region ?_
                    refine sl_v rfl (r_as rfl) ?_
                    refine sl_nil ?_
                    refine cw_ret ?_
                    exact rs_1 (rt rfl) ⟨false, rfl, h⟩
                  · replace h := h.2 (of_decide_eq_false hb44)
                    refine sl_vg rfl rfl rfl hb44 (r_mv rfl) ?_
                    refine sl_v rfl (r_pf rfl hb44 rfl) ?_
                    refine sl_nil ?_
                    refine bcases (r23_1) (fun hb45 => ?_) (fun hb45 => ?_)
                    · replace h := h.1 hb45
                      refine cw_ct rfl hb45 ?_
                      refine cw_seq ?_
                      refine cw_region ?_
                      refine sl_v rfl (r_as rfl) ?_
                      refine sl_nil ?_
                      refine cw_ret ?_
                      exact rs_1 (rt rfl) ⟨false, rfl, h⟩
                    · replace h := h.2 hb45
                      refine cw_cf rfl hb45 ?_
                      refine cw_skip ?_
                      refine cw_seq ?_
                      refine cw_region ?_
                      refine sl_v rfl (r_mv rfl) ?_
                      refine sl_op rfl (ok_call c_apply_New rfl (Calls.mono h (fun e46 w47 hq48 => ?_)))
                      clear h
                      obtain ⟨r50_0, r50_1, he49, h⟩ := hq48
                      refine ⟨_, he49, ?_⟩
                      replace hx : Ext w47 w47 := Chg.refl _
                      refine sl_v rfl (r_mv rfl) ?_
                      refine sl_v rfl (r_ex rfl rfl) ?_
                      refine sl_v rfl (r_ex rfl rfl) ?_
                      refine sl_v rfl (r_as rfl) ?_
                      refine sl_v rfl (r_as rfl) ?_
                      refine sl_nil ?_
                      refine cw_seq ?_
                      obtain ⟨K52, hK53, h⟩ := h
                      refine cw_mid (fun f w => ∃ (g : Env) (j51 : Bool), f = (upd (upd (upd (upd (nm g []) 1 (.string a1)) 10 (.pointer r50_0)) 11 (.int .i64 r50_1)) 75 (.bool j51)) ∧ K52 j51 w) ?_ (fun _ w54 hM56 => ?_)
                      ·
                        refine cw_region ?_
                        refine sl_v rfl (r_mv rfl) ?_
                        refine sl_v rfl (r_neq rfl rfl) ?_
                        refine sl_v rfl (r_mv rfl) ?_
                        refine bcases (decide (r50_1 ≠ (0 : Int))) (fun hb57 => ?_) (fun hb57 => ?_)
                        · replace h := h.1 (of_decide_eq_true hb57)
                          refine sl_no rfl rfl rfl hb57 ?_
                          refine sl_no rfl rfl rfl hb57 ?_
                          refine sl_v rfl (r_pt rfl hb57 rfl) ?_
                          refine sl_nil ?_
                          exact ⟨_, true, (kp (kp (kp (kp (kn rfl) rfl) rfl) rfl) rfl), h⟩
                        · replace h := h.2 (of_decide_eq_false hb57)
                          refine sl_vg rfl rfl rfl hb57 (r_mv rfl) ?_
                          refine sl_vg rfl rfl rfl hb57 (p_eqn rfl rfl Try.underlying50) ?_
                          refine sl_v rfl (r_pf rfl hb57 rfl) ?_
                          refine sl_nil ?_
                          exact ⟨_, decide (r50_0 = none), (kp (kp (kp (kp (kn rfl) rfl) rfl) rfl) rfl), h⟩
                      ·
                        obtain ⟨g55, j51, rfl, hM56⟩ := hM56
                        replace h := hK53 j51 w54 hM56
                        have hx : Ext w54 w54 := Chg.refl _
                        refine bcases (j51) (fun hb58 => ?_) (fun hb58 => ?_)
                        · replace h := h.1 hb58
                          refine cw_ct rfl hb58 ?_
                          refine cw_seq ?_
                          refine cw_region ?_
                          refine sl_v rfl (r_mv rfl) ?_
                          refine sl_v rfl (r_neq rfl rfl) ?_
                          refine sl_v rfl (r_mv rfl) ?_
                          refine bcases (decide (r50_1 ≠ (0 : Int))) (fun hb59 => ?_) (fun hb59 => ?_)
                          · replace h := h.1 (of_decide_eq_true hb59)
                            refine sl_vg rfl rfl rfl hb59 (r_mv rfl) ?_
                            refine sl_vg rfl rfl rfl hb59 (p_eqn rfl rfl Try.underlying50) ?_
                            refine sl_v rfl (r_pt rfl hb59 rfl) ?_
                            refine sl_v rfl (r_as rfl) ?_
                            refine sl_nil ?_
                            refine cw_ret ?_
                            exact rs_1 (rt rfl) ⟨decide (r50_0 = none), rfl, h⟩
                          · replace h := h.2 (of_decide_eq_false hb59)
                            refine sl_no rfl rfl rfl hb59 ?_
                            refine sl_no rfl rfl rfl hb59 ?_
                            refine sl_v rfl (r_pf rfl hb59 rfl) ?_
                            refine sl_v rfl (r_as rfl) ?_
                            refine sl_nil ?_
                            refine cw_ret ?_
                            exact rs_1 (rt rfl) ⟨false, rfl, h⟩
                        · replace h := h.2 hb58
                          refine cw_cf rfl hb58 ?_
                          refine cw_skip ?_
                          refine cw_seq ?_
                          refine cw_region ?_
                          refine sl_v rfl (r_mv rfl) ?_
                          refine sl_v rfl (r_mv rfl) ?_
                          refine sl_op rfl (ok_call c_apply_Coder_Encode rfl (Calls.mono h (fun e60 w61 hq62 => ?_)))
                          clear h
                          obtain ⟨r64, he63, h⟩ := hq62
                          refine ⟨_, he63, ?_⟩
                          replace hx : Ext w61 w61 := Chg.refl _
                          refine sl_v rfl (r_as rfl) ?_
                          refine sl_nil ?_
                          refine cw_seq ?_
                          refine cw_region ?_
                          refine sl_v rfl (r_mv rfl) ?_
                          refine sl_v rfl (r_mv rfl) ?_
                          refine sl_op rfl (ok_call c_apply_Coder_Decode rfl (Calls.mono h (fun e65 w66 hq67 => ?_)))
                          clear h
                          obtain ⟨r69_0, r69_1, he68, h⟩ := hq67
                          refine ⟨_, he68, ?_⟩
                          replace hx : Ext w66 w66 := Chg.refl _
                          refine sl_v rfl (r_mv rfl) ?_
                          refine sl_v rfl (r_ex rfl rfl) ?_
                          refine sl_v rfl (r_ex rfl rfl) ?_
                          refine sl_v rfl (r_as rfl) ?_
                          refine sl_v rfl (r_as rfl) ?_
                          refine sl_nil ?_
                          refine cw_seq ?_
                          refine cw_region ?_
                          refine sl_v rfl (r_mv rfl) ?_
                          refine sl_v rfl (r_mv rfl) ?_
                          refine bcases (r69_1) (fun hb70 => ?_) (fun hb70 => ?_)
                          · replace h := h.1 hb70
                            refine sl_vg rfl rfl rfl hb70 (r_mv rfl) ?_
                            refine sl_vg rfl rfl rfl hb70 (r_mv rfl) ?_
                            refine sl_vg rfl rfl rfl hb70 (s_eql rfl rfl) ?_
                            refine sl_v rfl (r_pt rfl hb70 rfl) ?_
                            refine sl_v rfl (r_mv rfl) ?_
                            refine bcases (decide (r69_0 = a1)) (fun hb71 => ?_) (fun hb71 => ?_)
                            · replace h := h.1 (of_decide_eq_true hb71)
                              refine sl_vg rfl rfl rfl hb71 (r_mv rfl) ?_
                              refine sl_vg rfl rfl rfl hb71 (r_len_l (s := r64) rfl rfl Try.underlying58) ?_
                              refine sl_vg rfl rfl rfl hb71 (r_mv rfl) ?_
                              refine sl_vg rfl rfl rfl hb71 (r_len_s rfl rfl Try.underlying9) ?_
                              refine sl_vg rfl rfl rfl hb71 (r_leq rfl rfl) ?_
                              refine sl_v rfl (r_pt rfl hb71 rfl) ?_
                              refine sl_v rfl (r_as rfl) ?_
                              refine sl_nil ?_
                              refine cw_ret ?_
                              exact rs_1 (rt rfl) ⟨decide (((r64.n : Nat) : Int) ≤ ((a1.size : Nat) : Int)), rfl, h⟩
                            · replace h := h.2 (of_decide_eq_false hb71)
                              refine sl_no rfl rfl rfl hb71 ?_
                              refine sl_no rfl rfl rfl hb71 ?_
                              refine sl_no rfl rfl rfl hb71 ?_
                              refine sl_no rfl rfl rfl hb71 ?_
                              refine sl_no rfl rfl rfl hb71 ?_
                              refine sl_v rfl (r_pf rfl hb71 rfl) ?_
                              refine sl_v rfl (r_as rfl) ?_
                              refine sl_nil ?_
                              refine cw_ret ?_
                              exact rs_1 (rt rfl) ⟨false, rfl, h⟩
                          · replace h := h.2 hb70
                            refine sl_no rfl rfl rfl hb70 ?_
                            refine sl_no rfl rfl rfl hb70 ?_
                            refine sl_no rfl rfl rfl hb70 ?_
                            refine sl_v rfl (r_pf rfl hb70 rfl) ?_
                            refine sl_v rfl (r_mv rfl) ?_
                            refine sl_no rfl rfl rfl rfl ?_
                            refine sl_no rfl rfl rfl rfl ?_
                            refine sl_no rfl rfl rfl rfl ?_
                            refine sl_no rfl rfl rfl rfl ?_
                            refine sl_no rfl rfl rfl rfl ?_
                            refine sl_v rfl (r_pf rfl rfl rfl) ?_
                            refine sl_v rfl (r_as rfl) ?_
                            refine sl_nil ?_
                            refine cw_ret ?_
                            exact rs_1 (rt rfl) ⟨false, rfl, h⟩
  · replace h := h.2 hb6
    refine cw_ct rfl (nf hb6) ?_
    refine cw_seq ?_
    refine cw_region ?_
    refine sl_v rfl (r_as rfl) ?_
    refine sl_nil ?_
    refine cw_ret ?_
    exact rs_1 (rt rfl) ⟨false, rfl, h⟩

def VC_law21_awake (R : Bool → World → Prop) (w : World) : Prop :=
  ∀ (b1 : Nat) (w2 : World), New w b1 (.cells #[.string (⟨#[97]⟩ : ByteArray), .string (⟨#[98]⟩ : ByteArray), .string (⟨#[98]⟩ : ByteArray), .string (⟨#[99]⟩ : ByteArray), .string (⟨#[97, 98]⟩ : ByteArray), .string (⟨#[99]⟩ : ByteArray)] t_api_Merge (0, 0)) w2 → (Calls PP n_vocab_New #[.slice (some ⟨b1, 0, none⟩) 3 3] w2 (fun e w5 => ∃ r8_0 : Option Addr, ∃ r8_1 : Int, e = .returned (.tuple #[.pointer r8_0, .int .i64 r8_1]) ∧ ((r8_1 = (0 : Int) → (Calls PP n_vocab_Vocab_Longest #[.pointer r8_0, .string (⟨#[97, 98, 99, 98]⟩ : ByteArray)] w5 (fun e w11 => ∃ r14 : Sl, e = .returned (r14.v) ∧ (∀ (b15 : Nat) (w16 : World), New w11 b15 (.cells #[.string (⟨#[97, 98, 99]⟩ : ByteArray), .string (⟨#[98]⟩ : ByteArray)] t_string (0, 0)) w16 → (Calls PP n_ref01_Texts #[r14.v, .slice (some ⟨b15, 0, none⟩) 2 2] w16 (fun e w19 => ∃ r22 : Bool, e = .returned (.bool r22) ∧ ((r22 = true → (Calls PP n_vocab_Vocab_Depth #[.pointer r8_0, .string (⟨#[97, 98, 99]⟩ : ByteArray)] w19 (fun e w25 => ∃ r28 : Int, e = .returned (.int .i64 r28) ∧ (R (decide (r28 = (2 : Int))) w25)))) ∧ (r22 = false → (R false w19))))))))) ∧ (¬ (r8_1 = (0 : Int)) → (R false w5)))))
set_option maxRecDepth 100000 in
theorem vc_law21_awake {R : Bool → World → Prop} {w : World} (h : VC_law21_awake R w) : Calls PP n_law21_awake #[] w fun e w' => ∃ r0 : Bool, e = .returned (.bool r0) ∧ R r0 w' := by
  refine Calls.mono (calls_of_cw (n := 24) (rs := #[.tmp 0]) (args := []) (R := fun v w' => ∃ r0 : Bool, v = .bool r0 ∧ R r0 w') Try.func8 rfl rfl (Nat.le_of_ble_eq_true rfl) rfl ?_) ?_
  case refine_2 => rintro e w' ⟨v, rfl, hr⟩; obtain ⟨r0, rfl, hr⟩ := hr; exact ⟨r0, rfl, hr⟩
  have hx : Ext w w := Chg.refl _
  unfold VC_law21_awake at h
  refine cw_seq ?_
  refine cw_region ?_
  refine sl_v rfl (r_as rfl) ?_
  refine sl_nil ?_
  refine cw_seq ?_
  refine cw_region ?_
  refine sl_v rfl (bd_api_Merge (vs := [(0, .string (⟨#[97]⟩ : ByteArray)), (1, .string (⟨#[98]⟩ : ByteArray))]) (cs := #[.string (⟨#[97]⟩ : ByteArray), .string (⟨#[98]⟩ : ByteArray)]) rfl rfl) ?_
  refine sl_v rfl (bd_api_Merge (vs := [(0, .string (⟨#[98]⟩ : ByteArray)), (1, .string (⟨#[99]⟩ : ByteArray))]) (cs := #[.string (⟨#[98]⟩ : ByteArray), .string (⟨#[99]⟩ : ByteArray)]) rfl rfl) ?_
  refine sl_v rfl (bd_api_Merge (vs := [(0, .string (⟨#[97, 98]⟩ : ByteArray)), (1, .string (⟨#[99]⟩ : ByteArray))]) (cs := #[.string (⟨#[97, 98]⟩ : ByteArray), .string (⟨#[99]⟩ : ByteArray)]) rfl rfl) ?_
  refine sl_op rfl (bs_sl_api_Merge (len := 3) (vs := [(0, .agg #[.string (⟨#[97]⟩ : ByteArray), .string (⟨#[98]⟩ : ByteArray)]), (1, .agg #[.string (⟨#[98]⟩ : ByteArray), .string (⟨#[99]⟩ : ByteArray)]), (2, .agg #[.string (⟨#[97, 98]⟩ : ByteArray), .string (⟨#[99]⟩ : ByteArray)])]) (cs := #[.string (⟨#[97]⟩ : ByteArray), .string (⟨#[98]⟩ : ByteArray), .string (⟨#[98]⟩ : ByteArray), .string (⟨#[99]⟩ : ByteArray), .string (⟨#[97, 98]⟩ : ByteArray), .string (⟨#[99]⟩ : ByteArray)]) (by decide) rfl rfl (fun b1 w2 hN3 => ?_))
  replace h := h b1 w2 hN3
  replace hx : Ext w2 w2 := Chg.refl _
  refine sl_op rfl (ok_call c_vocab_New rfl (Calls.mono h (fun e4 w5 hq6 => ?_)))
  clear h
  obtain ⟨r8_0, r8_1, he7, h⟩ := hq6
  refine ⟨_, he7, ?_⟩
  replace hx : Ext w5 w5 := Chg.refl _
  refine sl_v rfl (r_mv rfl) ?_
  refine sl_v rfl (r_ex rfl rfl) ?_
  refine sl_v rfl (r_ex rfl rfl) ?_
  refine sl_v rfl (r_as rfl) ?_
  refine sl_v rfl (r_as rfl) ?_
  refine sl_nil ?_
  refine cw_seq ?_
  refine cw_region ?_
  refine sl_v rfl (r_mv rfl) ?_
  refine sl_v rfl (r_eql rfl rfl) ?_
  refine sl_v rfl (r_mv rfl) ?_
  refine bcases (decide (r8_1 = (0 : Int))) (fun hb9 => ?_) (fun hb9 => ?_)
  · replace h := h.1 (of_decide_eq_true hb9)
    refine sl_vg rfl rfl rfl hb9 (r_mv rfl) ?_
    refine sl_g rfl rfl rfl hb9 (ok_call c_vocab_Vocab_Longest rfl (Calls.mono h (fun e10 w11 hq12 => ?_)))
    clear h
    obtain ⟨r14, he13, h⟩ := hq12
    refine ⟨_, he13, ?_⟩
    replace hx : Ext w11 w11 := Chg.refl _
    refine sl_g rfl rfl rfl hb9 (bs_sl_string (len := 2) (vs := [(0, .string (⟨#[97, 98, 99]⟩ : ByteArray)), (1, .string (⟨#[98]⟩ : ByteArray))]) (cs := #[.string (⟨#[97, 98, 99]⟩ : ByteArray), .string (⟨#[98]⟩ : ByteArray)]) (by decide) rfl rfl (fun b15 w16 hN17 => ?_))
    replace h := h b15 w16 hN17
    replace hx : Ext w16 w16 := Chg.refl _
    refine sl_g rfl rfl rfl hb9 (ok_call c_ref01_Texts rfl (Calls.mono h (fun e18 w19 hq20 => ?_)))
    clear h
    obtain ⟨r22, he21, h⟩ := hq20
    refine ⟨_, he21, ?_⟩
    replace hx : Ext w19 w19 := Chg.refl _
    refine sl_v rfl (r_pt rfl hb9 rfl) ?_
    refine sl_v rfl (r_mv rfl) ?_
    refine bcases (r22) (fun hb23 => ?_) (fun hb23 => ?_)
    · replace h := h.1 hb23
      refine sl_vg rfl rfl rfl hb23 (r_mv rfl) ?_
      refine sl_g rfl rfl rfl hb23 (ok_call c_vocab_Vocab_Depth rfl (Calls.mono h (fun e24 w25 hq26 => ?_)))
      clear h
      obtain ⟨r28, he27, h⟩ := hq26
      refine ⟨_, he27, ?_⟩
      replace hx : Ext w25 w25 := Chg.refl _
      refine sl_vg rfl rfl rfl hb23 (r_eql rfl rfl) ?_
      refine sl_v rfl (r_pt rfl hb23 rfl) ?_
      refine sl_v rfl (r_as rfl) ?_
      refine sl_nil ?_
      refine cw_ret ?_
      exact rs_1 (rt rfl) ⟨decide (r28 = (2 : Int)), rfl, h⟩
    · replace h := h.2 hb23
      refine sl_no rfl rfl rfl hb23 ?_
      refine sl_no rfl rfl rfl hb23 ?_
      refine sl_no rfl rfl rfl hb23 ?_
      refine sl_v rfl (r_pf rfl hb23 rfl) ?_
      refine sl_v rfl (r_as rfl) ?_
      refine sl_nil ?_
      refine cw_ret ?_
      exact rs_1 (rt rfl) ⟨false, rfl, h⟩
  · replace h := h.2 (of_decide_eq_false hb9)
    refine sl_no rfl rfl rfl hb9 ?_
    refine sl_no rfl rfl rfl hb9 ?_
    refine sl_no rfl rfl rfl hb9 ?_
    refine sl_no rfl rfl rfl hb9 ?_
    refine sl_v rfl (r_pf rfl hb9 rfl) ?_
    refine sl_v rfl (r_mv rfl) ?_
    refine sl_no rfl rfl rfl rfl ?_
    refine sl_no rfl rfl rfl rfl ?_
    refine sl_no rfl rfl rfl rfl ?_
    refine sl_v rfl (r_pf rfl rfl rfl) ?_
    refine sl_v rfl (r_as rfl) ?_
    refine sl_nil ?_
    refine cw_ret ?_
    exact rs_1 (rt rfl) ⟨false, rfl, h⟩

def VC_ref18_Great (a0 : Sl) (a1 : Int) (R : Bool → World → Prop) (w : World) : Prop :=
  ∃ (I2 : Int → World → Prop) (μ3 : Int → World → Nat), I2 0 w ∧ ∀ (l1 : Int) (w5 : World), I2 l1 w5 → ((l1 < ((a0.n : Nat) : Int) → (∃ k9 : Nat, l1 = ((k9 : Nat) : Int) ∧ k9 < a0.n ∧ (∃ (b11 o12 : Nat), a0.b = some ⟨b11, o12, none⟩ ∧ (∃ v14 : ByteArray, w5.cell? ⟨b11, o12 + k9 * 2, none⟩ = some (.string v14) ∧ (((300 : Int) < ((v14.size : Nat) : Int) → (R true w5)) ∧ (¬ ((300 : Int) < ((v14.size : Nat) : Int)) → (∃ v17 : ByteArray, w5.cell? ⟨b11, o12 + k9 * 2 + 1, none⟩ = some (.string v17) ∧ (((300 : Int) < ((v17.size : Nat) : Int) → (R true w5)) ∧ (¬ ((300 : Int) < ((v17.size : Nat) : Int)) → (∃ z20 : Int, z20 = IntKind.wrap .i64 (((k9 : Nat) : Int) + 1) ∧ (I2 z20 w5 ∧ μ3 z20 w5 < μ3 l1 w5))))))))))) ∧ (¬ (l1 < ((a0.n : Nat) : Int)) → (R (decide (a1 < ((a0.n : Nat) : Int))) w5)))
set_option maxRecDepth 100000 in
theorem vc_ref18_Great {a0 : Sl} {a1 : Int} {R : Bool → World → Prop} {w : World} (h : VC_ref18_Great a0 a1 R w) : Calls PP n_ref18_Great #[a0.v, .int .i64 a1] w fun e w' => ∃ r0 : Bool, e = .returned (.bool r0) ∧ R r0 w' := by
  refine Calls.mono (calls_of_cw (n := 32) (rs := #[.tmp 4]) (args := [a0.v, .int .i64 a1]) (R := fun v w' => ∃ r0 : Bool, v = .bool r0 ∧ R r0 w') Try.func9 rfl rfl (Nat.le_of_ble_eq_true rfl) rfl ?_) ?_
  case refine_2 => rintro e w' ⟨v, rfl, hr⟩; obtain ⟨r0, rfl, hr⟩ := hr; exact ⟨r0, rfl, hr⟩
  have hx : Ext w w := Chg.refl _
  unfold VC_ref18_Great at h
  refine cw_seq ?_
  refine cw_region ?_
  refine sl_v rfl (r_as rfl) ?_
  refine sl_nil ?_
  refine cw_seq ?_
  refine cw_seq ?_
  refine cw_region ?_
  refine sl_v rfl (r_as rfl) ?_
  refine sl_nil ?_
  refine cw_block ?_
  obtain ⟨I2, μ3, hI4, h⟩ := h
  refine cw_loop (σ := Int) (fun s g => (upd (upd (upd (nm g []) 0 (a0.v)) 1 (.int .i64 a1)) 5 (.int .i64 s))) (fun s w => I2 s w) (fun s w => μ3 s w) (0) _ (kp (kp (kp (kn rfl) rfl) rfl) rfl) hI4 ?_
  rintro l1 g6 w5 hi7
  replace h := h l1 w5 hi7
  have hx : Ext w5 w5 := Chg.refl _
  change CW _ PP _ _ _ (upd (upd (upd (nm g6 []) 0 (a0.v)) 1 (.int .i64 a1)) 5 (.int .i64 l1)) _
  refine cw_seq ?_
  refine cw_seq ?_
  refine cw_region ?_
  refine sl_v rfl (r_mv rfl) ?_
  refine sl_v rfl (r_mv rfl) ?_
  refine sl_v rfl (r_len_l (s := a0) rfl rfl Try.underlying22) ?_
  refine sl_v rfl (r_lss rfl rfl) ?_
  refine sl_nil ?_
  refine bcases (decide (l1 < ((a0.n : Nat) : Int))) (fun hb8 => ?_) (fun hb8 => ?_)
  · replace h := h.1 (of_decide_eq_true hb8)
    refine cw_ct rfl hb8 ?_
    refine cw_skip ?_
    refine cw_seq ?_
    refine cw_block ?_
    refine cw_seq ?_
    refine cw_region ?_
    refine sl_v rfl (r_mv rfl) ?_
    refine sl_v rfl (r_mv rfl) ?_
    obtain ⟨k9, rfl, hk10, h⟩ := h
    obtain ⟨b11, o12, hb13, h⟩ := h
    refine sl_v rfl (ia_sl_api_Merge (s := a0) (j := k9) (o' := o12 + k9 * 2) rfl rfl hk10 hb13 rfl) ?_
    refine sl_v rfl (fa_api_Merge_0 (o' := o12 + k9 * 2) rfl rfl) ?_
    obtain ⟨v14, hc15, h⟩ := h
    refine sl_v rfl (ld_string rfl hc15) ?_
    refine sl_v rfl (r_len_s rfl rfl Try.underlying9) ?_
    refine sl_v rfl (r_gtr rfl rfl) ?_
    refine sl_v rfl (r_mv rfl) ?_
    refine bcases (decide ((300 : Int) < ((v14.size : Nat) : Int))) (fun hb16 => ?_) (fun hb16 => ?_)
    · replace h := h.1 (of_decide_eq_true hb16)
      refine sl_no rfl rfl rfl hb16 ?_
      refine sl_no rfl rfl rfl hb16 ?_
      refine sl_no rfl rfl rfl hb16 ?_
      refine sl_no rfl rfl rfl hb16 ?_
      refine sl_no rfl rfl rfl hb16 ?_
      refine sl_no rfl rfl rfl hb16 ?_
      refine sl_no rfl rfl rfl hb16 ?_
      refine sl_v rfl (r_pt rfl hb16 rfl) ?_
      refine sl_nil ?_
      refine cw_ct rfl rfl ?_
      refine cw_seq ?_
      refine cw_region ?_
      refine sl_v rfl (r_as rfl) ?_
      refine sl_nil ?_
      refine cw_ret ?_
      exact rs_1 (rt rfl) ⟨true, rfl, h⟩
    · replace h := h.2 (of_decide_eq_false hb16)
      refine sl_vg rfl rfl rfl hb16 (r_mv rfl) ?_
      refine sl_vg rfl rfl rfl hb16 (r_mv rfl) ?_
      refine sl_vg rfl rfl rfl hb16 (ia_sl_api_Merge (s := a0) (j := k9) (o' := o12 + k9 * 2) rfl rfl hk10 hb13 rfl) ?_
      refine sl_vg rfl rfl rfl hb16 (fa_api_Merge_1 (o' := o12 + k9 * 2 + 1) rfl rfl) ?_
      obtain ⟨v17, hc18, h⟩ := h
      refine sl_vg rfl rfl rfl hb16 (ld_string rfl hc18) ?_
      refine sl_vg rfl rfl rfl hb16 (r_len_s rfl rfl Try.underlying9) ?_
      refine sl_vg rfl rfl rfl hb16 (r_gtr rfl rfl) ?_
      refine sl_v rfl (r_pf rfl hb16 rfl) ?_
      refine sl_nil ?_
      refine bcases (decide ((300 : Int) < ((v17.size : Nat) : Int))) (fun hb19 => ?_) (fun hb19 => ?_)
      · replace h := h.1 (of_decide_eq_true hb19)
        refine cw_ct rfl hb19 ?_
        refine cw_seq ?_
        refine cw_region ?_
        refine sl_v rfl (r_as rfl) ?_
        refine sl_nil ?_
        refine cw_ret ?_
        exact rs_1 (rt rfl) ⟨true, rfl, h⟩
      · replace h := h.2 (of_decide_eq_false hb19)
        refine cw_cf rfl hb19 ?_
        refine cw_skip ?_
        refine cw_region ?_
        refine sl_v rfl (r_mv rfl) ?_
        obtain ⟨z20, hz20, h⟩ := h
        refine sl_v rfl (r_add rfl rfl hz20) ?_
        refine sl_v rfl (r_as rfl) ?_
        refine sl_nil ?_
        exact ⟨(z20), _, (kp (kp (kp (kn rfl) rfl) rfl) rfl), h.1, h.2⟩
  · replace h := h.2 (of_decide_eq_false hb8)
    refine cw_cf rfl hb8 ?_
    refine cw_exit ?_
    refine cw_seq ?_
    refine cw_region ?_
    refine sl_v rfl (r_mv rfl) ?_
    refine sl_v rfl (r_len_l (s := a0) rfl rfl Try.underlying22) ?_
    refine sl_v rfl (r_mv rfl) ?_
    refine sl_v rfl (r_gtr rfl rfl) ?_
    refine sl_v rfl (r_as rfl) ?_
    refine sl_nil ?_
    refine cw_ret ?_
    exact rs_1 (rt rfl) ⟨decide (a1 < ((a0.n : Nat) : Int)), rfl, h⟩

def VC_vocab_New (a0 : Sl) (R : Option Addr → Int → World → Prop) (w : World) : Prop :=
  Calls PP n_file_Check #[a0.v] w (fun e w2 => ∃ r5_0 : Int, ∃ r5_1 : Int, e = .returned (.tuple #[.int .i64 r5_0, .int .i64 r5_1]) ∧ ((r5_1 ≠ (0 : Int) → (R none r5_1 w2)) ∧ (¬ (r5_1 ≠ (0 : Int)) → (∀ (b7 : Nat) (w8 : World), New w2 b7 (.map #[] 0) w8 → (∀ (b10 : Nat) (w11 : World), New w8 b10 (.map #[] 0) w11 → (∀ (b13 : Nat) (w14 : World), New w11 b13 (.cells #[.map (some b7), .map (some b10), .int .i64 1] t_vocab_Vocab (0, 0)) w14 → (∃ (I17 : Int → World → Prop) (μ18 : Int → World → Nat), I17 0 w14 ∧ ∀ (l16 : Int) (w20 : World), I17 l16 w20 → ((l16 < (256 : Int) → (∃ v24 : Option Nat, w20.cell? ⟨b13, 0, none⟩ = some (.map v24) ∧ (∃ z26 : Int, z26 = IntKind.wrap .u8 l16 ∧ (∃ q33 : UInt8, z26 = ((q33.toNat : Nat) : Int) ∧ (∀ w30 : World, Ext w20 w30 → (∃ b40 : Nat, v24 = some b40 ∧ (∃ es41 : List (ByteArray × Int), Mp strV intV w30 (some b40) es41 ∧ (∀ w36 : World, Mp strV intV w36 (some b40) (mput (⟨#[q33]⟩ : ByteArray) 0 es41) → Chg (fun x => x = b40) w30 w36 → (w36.cell? ⟨b13, 0, none⟩ = some (.map (some b40)) ∧ (∃ z43 : Int, z43 = IntKind.wrap .i64 (l16 + 1) ∧ (I17 z43 w36 ∧ μ18 z43 w36 < μ18 l16 w20))))))))))) ∧ (¬ (l16 < (256 : Int)) → (∃ (I45 : Int → World → Prop) (μ46 : Int → World → Nat), I45 0 w20 ∧ ∀ (l44 : Int) (w48 : World), I45 l44 w48 → ((l44 < ((a0.n : Nat) : Int) → (∃ k52 : Nat, l44 = ((k52 : Nat) : Int) ∧ k52 < a0.n ∧ (∃ (b54 o55 : Nat), a0.b = some ⟨b54, o55, none⟩ ∧ (∃ v57_0 : ByteArray, ∃ v57_1 : ByteArray, Cells w48 b54 (o55 + k52 * 2) [.string v57_0, .string v57_1] ∧ (∀ (b59 : Nat) (w60 : World), Priv w48 b59 w60 → (∀ w63 : World, Chg (fun b => b = b59) w60 w63 → (v57_0.size + v57_1.size ≤ 9223372036854775807 ∧ (∃ v68 : Option Nat, w63.cell? ⟨b13, 0, none⟩ = some (.map v68) ∧ (∃ es70 : List (ByteArray × Int), Mp strV intV w63 v68 es70 ∧ (∃ z72 : Int, z72 = (mget v57_0 es70).getD 0 ∧ (∃ z73 : Int, z73 = (mget v57_1 es70).getD 0 ∧ (∃ z74 : Int, z74 = IntKind.wrap .i64 (1 + (max z72 z73)) ∧ (∀ w66 : World, Ext w63 w66 → (∃ b80 : Nat, v68 = some b80 ∧ (∃ es81 : List (ByteArray × Int), Mp strV intV w66 (some b80) es81 ∧ (b59 ≠ b80 ∧ (∀ w76 : World, Mp strV intV w76 (some b80) (mput (v57_0 ++ v57_1) z74 es81) → Chg (fun x => x = b80) w66 w76 → (∃ v85 : Option Nat, w76.cell? ⟨b13, 1, none⟩ = some (.map v85) ∧ (∃ es87 : List (ByteArray × Int), Mp strV intV w76 v85 es87 ∧ (∃ z89 : Int, z89 = (mget v57_0 es87).getD 0 ∧ (∃ z90 : Int, z90 = IntKind.wrap .i64 (z89 + 1) ∧ (∀ w83 : World, Ext w76 w83 → (∃ b96 : Nat, v85 = some b96 ∧ (∃ es97 : List (ByteArray × Int), Mp strV intV w83 (some b96) es97 ∧ (b59 ≠ b96 ∧ (∀ w92 : World, Mp strV intV w92 (some b96) (mput v57_0 z90 es97) → Chg (fun x => x = b96) w83 w92 → (∃ v101 : Option Nat, w92.cell? ⟨b13, 1, none⟩ = some (.map v101) ∧ (∃ es103 : List (ByteArray × Int), Mp strV intV w92 v101 es103 ∧ (∃ z105 : Int, z105 = (mget v57_1 es103).getD 0 ∧ (∃ z106 : Int, z106 = IntKind.wrap .i64 (z105 + 1) ∧ (∀ w99 : World, Ext w92 w99 → (∃ b112 : Nat, v101 = some b112 ∧ (∃ es113 : List (ByteArray × Int), Mp strV intV w99 (some b112) es113 ∧ (b59 ≠ b112 ∧ (∀ w108 : World, Mp strV intV w108 (some b112) (mput v57_1 z106 es113) → Chg (fun x => x = b112) w99 w108 → (∃ v115 : Int, w108.cell? ⟨b13, 2, none⟩ = some (.int .i64 v115) ∧ (Wr w108 b13 2 1 ∧ (b59 ≠ b13 ∧ (∀ w117 : World, w117 = setCells w108 b13 2 [.int .i64 (max v115 (((v57_0 ++ v57_1).size : Nat) : Int))] → (∃ z121 : Int, z121 = IntKind.wrap .i64 (((k52 : Nat) : Int) + 1) ∧ (I45 z121 w117 ∧ μ46 z121 w117 < μ46 l44 w48))))))))))))))))))))))))))))))))))))))))) ∧ (¬ (l44 < ((a0.n : Nat) : Int)) → (R (some ⟨b13, 0, none⟩) 0 w48)))))))))))))
set_option maxRecDepth 100000 in
theorem vc_vocab_New {a0 : Sl} {R : Option Addr → Int → World → Prop} {w : World} (h : VC_vocab_New a0 R w) : Calls PP n_vocab_New #[a0.v] w fun e w' => ∃ r0 : Option Addr, ∃ r1 : Int, e = .returned (.tuple #[.pointer r0, .int .i64 r1]) ∧ R r0 r1 w' := by
  refine Calls.mono (calls_of_cw (n := 95) (rs := #[.tmp 2, .tmp 3]) (args := [a0.v]) (R := fun v w' => ∃ r0 : Option Addr, ∃ r1 : Int, v = .tuple #[.pointer r0, .int .i64 r1] ∧ R r0 r1 w') Try.func10 rfl rfl (Nat.le_of_ble_eq_true rfl) rfl ?_) ?_
  case refine_2 => rintro e w' ⟨v, rfl, hr⟩; obtain ⟨r0, r1, rfl, hr⟩ := hr; exact ⟨r0, r1, rfl, hr⟩
  have hx : Ext w w := Chg.refl _
  unfold VC_vocab_New at h
  refine cw_seq ?_
  refine cw_region ?_
  refine sl_v rfl (r_as rfl) ?_
  refine sl_v rfl (r_as rfl) ?_
  refine sl_nil ?_
  refine cw_seq ?_
  refine cw_seq ?_
  refine cw_region ?_
  refine sl_v rfl (r_mv rfl) ?_
  refine sl_op rfl (ok_call c_file_Check rfl (Calls.mono h (fun e1 w2 hq3 => ?_)))
  clear h
  obtain ⟨r5_0, r5_1, he4, h⟩ := hq3
  refine ⟨_, he4, ?_⟩
  replace hx : Ext w2 w2 := Chg.refl _
  refine sl_v rfl (r_mv rfl) ?_
  refine sl_v rfl (r_ex rfl rfl) ?_
  refine sl_v rfl (r_ex rfl rfl) ?_
  refine sl_v rfl (r_as rfl) ?_
  refine sl_v rfl (r_as rfl) ?_
  refine sl_nil ?_
  refine cw_seq ?_
  refine cw_region ?_
  refine sl_v rfl (r_mv rfl) ?_
  refine sl_v rfl (r_neq rfl rfl) ?_
  refine sl_nil ?_
  refine bcases (decide (r5_1 ≠ (0 : Int))) (fun hb6 => ?_) (fun hb6 => ?_)
  · replace h := h.1 (of_decide_eq_true hb6)
    refine cw_ct rfl hb6 ?_
    refine cw_seq ?_
    refine cw_region ?_
    refine sl_v rfl (r_mv rfl) ?_
    refine sl_v rfl (r_as rfl) ?_
    refine sl_v rfl (r_as rfl) ?_
    refine sl_nil ?_
    refine cw_ret ?_
    exact rs_2 (rt rfl) (rt rfl) ⟨none, r5_1, rfl, h⟩
  · replace h := h.2 (of_decide_eq_false hb6)
    refine cw_cf rfl hb6 ?_
    refine cw_skip ?_
    refine cw_seq ?_
    refine cw_region ?_
    refine sl_op rfl (ok_mm (fun b7 w8 hN9 => ?_) rfl)
    replace h := h b7 w8 hN9
    replace hx : Ext w8 w8 := Chg.refl _
    refine sl_op rfl (ok_mm (fun b10 w11 hN12 => ?_) rfl)
    replace h := h b10 w11 hN12
    replace hx : Ext w11 w11 := Chg.refl _
    refine sl_v rfl (bd_vocab_Vocab (vs := [(0, .map (some b7)), (1, .map (some b10)), (2, .int .i64 1)]) (cs := #[.map (some b7), .map (some b10), .int .i64 1]) rfl rfl) ?_
    refine sl_op rfl (bx_vocab_Vocab rfl rfl (fun b13 w14 hN15 => ?_))
    replace h := h b13 w14 hN15
    replace hx : Ext w14 w14 := Chg.refl _
    refine sl_v rfl (r_as rfl) ?_
    refine sl_nil ?_
    refine cw_seq ?_
    refine cw_seq ?_
    refine cw_region ?_
    refine sl_v rfl (r_mv rfl) ?_
    refine sl_nil ?_
    refine cw_block ?_
    obtain ⟨I17, μ18, hI19, h⟩ := h
    refine cw_loop (σ := Int) (fun s g => (upd (upd (upd (nm g []) 0 (a0.v)) 6 (.pointer (some ⟨b13, 0, none⟩))) 23 (.int .i64 s))) (fun s w => I17 s w) (fun s w => μ18 s w) (0) _ (kp (kp (kp (kn rfl) rfl) rfl) rfl) hI19 ?_
    rintro l16 g21 w20 hi22
    replace h := h l16 w20 hi22
    have hx : Ext w20 w20 := Chg.refl _
    change CW _ PP _ _ _ (upd (upd (upd (nm g21 []) 0 (a0.v)) 6 (.pointer (some ⟨b13, 0, none⟩))) 23 (.int .i64 l16)) _
    refine cw_seq ?_
    refine cw_region ?_
    refine sl_v rfl (r_lss rfl rfl) ?_
    refine sl_nil ?_
    refine cw_seq ?_
    refine bcases (decide (l16 < (256 : Int))) (fun hb23 => ?_) (fun hb23 => ?_)
    · replace h := h.1 (of_decide_eq_true hb23)
      refine cw_ct rfl hb23 ?_
      refine cw_skip ?_
      refine cw_seq ?_
      refine cw_block ?_
      refine cw_seq ?_
      refine cw_region ?_
      refine sl_v rfl (r_mv rfl) ?_
      refine sl_v rfl (r_as rfl) ?_
      refine sl_nil ?_
      obtain ⟨v24, hc25, h⟩ := h
      obtain ⟨z26, hz26, h⟩ := h
      refine cw_dw (S := fun w' => w'.cell? ⟨b13, 0, none⟩ = some (.map v24) ∧ True) mo (fun w27 hd28 => ?_)
      replace hx := hx.tr (Ext.of_drew hd28)
      have hS : w27.cell? ⟨b13, 0, none⟩ = some (.map v24) ∧ True := ⟨hx.cell hc25, trivial⟩
      refine dw_t 0 1 rfl (by kernel_rfl) rfl hS (fun _ _ => (r_mv rfl)) ?_
      refine dw_t 1 3 rfl (by kernel_rfl) rfl hS (fun _ _ => (r_nc rfl)) ?_
      refine dw_t 2 7 rfl (by kernel_rfl) rfl hS (fun _ _ => (fa_vocab_Vocab_0 (o' := 0) rfl rfl)) ?_
      refine dw_t 3 15 rfl (by kernel_rfl) rfl hS (fun _ hS => (ld_map_string_int rfl hS.1)) ?_
      refine dw_t 4 31 rfl (by kernel_rfl) rfl hS (fun _ _ => (r_mv rfl)) ?_
      refine dw_t 5 63 rfl (by kernel_rfl) rfl hS (fun _ _ => (r_ci (z := z26) rfl Try.underlying3 Try.underlying5 hz26)) ?_
      refine dw_l 6 127 rfl (by kernel_rfl) rfl (bs_sl_uint8 (len := 1) (vs := [(0, .int .u8 z26)]) (cs := #[.int .u8 z26]) (by decide) rfl rfl (fun b29 w30 hN31 => ?_))
      have hB32 := hN31.here
      replace hx := hx.tr hN31.ext
      replace hS : w30.cell? ⟨b13, 0, none⟩ = some (.map v24) ∧ True := ⟨hN31.ext.cell hS.1, trivial⟩
      refine ⟨hS, ?_⟩
      obtain ⟨q33, rfl, h⟩ := h
      refine dw_l 7 255 rfl (by kernel_rfl) rfl (ok_v (r_b2s (s := ⟨some ⟨b29, 0, none⟩, 1, 1⟩) (l := [q33]) Try.underlying76 Try.underlying5 Try.underlying9 rfl (bys_row (w := w30) (l := [q33]) hB32 rfl)) ⟨hS, ?_⟩)
      replace h := h _ hx
      replace hx : Ext w30 w30 := Chg.refl _
      obtain ⟨b40, rfl, h⟩ := h
      obtain ⟨es41, hm39, h⟩ := h
      refine dw_l 8 511 rfl (by kernel_rfl) rfl (mu_map_string_int (a := (⟨#[q33]⟩ : ByteArray)) (c := 0) rfl rfl rfl hm39 (fun w36 hq37 hc38 => ?_))
      replace h := h w36 hq37 hc38
      replace hx : Ext w36 w36 := Chg.refl _
      obtain ⟨hq42, h⟩ := h
      replace hS : w36.cell? ⟨b13, 0, none⟩ = some (.map (some b40)) ∧ True := ⟨hq42, trivial⟩
      refine ⟨hS, ?_⟩
      refine dw_d (by kernel_rfl) ?_
      clear hS
      refine cw_region ?_
      obtain ⟨z43, hz43, h⟩ := h
      refine sl_v rfl (r_add rfl rfl hz43) ?_
      refine sl_v rfl (r_mv rfl) ?_
      refine sl_nil ?_
      exact ⟨(z43), _, (kp (kp (kp (kn rfl) rfl) rfl) rfl), h.1, h.2⟩
    · replace h := h.2 (of_decide_eq_false hb23)
      refine cw_cf rfl hb23 ?_
      refine cw_exit ?_
      refine cw_seq ?_
      refine cw_seq ?_
      refine cw_region ?_
      refine sl_v rfl (r_mv rfl) ?_
      refine sl_v rfl (r_len_l (s := a0) rfl rfl Try.underlying22) ?_
      refine sl_v rfl (r_mv rfl) ?_
      refine sl_nil ?_
      refine cw_block ?_
      obtain ⟨I45, μ46, hI47, h⟩ := h
      refine cw_loop (σ := Int) (fun s g => (upd (upd (upd (upd (nm g []) 6 (.pointer (some ⟨b13, 0, none⟩))) 35 (a0.v)) 36 (.int .i64 ((a0.n : Nat) : Int))) 37 (.int .i64 s))) (fun s w => I45 s w) (fun s w => μ46 s w) (0) _ (kp (kp (kp (kp (kn rfl) rfl) rfl) rfl) rfl) hI47 ?_
      rintro l44 g49 w48 hi50
      replace h := h l44 w48 hi50
      have hx : Ext w48 w48 := Chg.refl _
      change CW _ PP _ _ _ (upd (upd (upd (upd (nm g49 []) 6 (.pointer (some ⟨b13, 0, none⟩))) 35 (a0.v)) 36 (.int .i64 ((a0.n : Nat) : Int))) 37 (.int .i64 l44)) _
      refine cw_seq ?_
      refine cw_region ?_
      refine sl_v rfl (r_lss rfl rfl) ?_
      refine sl_nil ?_
      refine cw_seq ?_
      refine bcases (decide (l44 < ((a0.n : Nat) : Int))) (fun hb51 => ?_) (fun hb51 => ?_)
      · replace h := h.1 (of_decide_eq_true hb51)
        refine cw_ct rfl hb51 ?_
        refine cw_skip ?_
        refine cw_seq ?_
        refine cw_block ?_
        refine cw_seq ?_
        refine cw_region ?_
        obtain ⟨k52, rfl, hk53, h⟩ := h
        obtain ⟨b54, o55, hb56, h⟩ := h
        refine sl_v rfl (ia_sl_api_Merge (s := a0) (j := k52) (o' := o55 + k52 * 2) rfl rfl hk53 hb56 rfl) ?_
        obtain ⟨v57_0, v57_1, hc58, h⟩ := h
        refine sl_v rfl (lda_api_Merge rfl rfl hc58) ?_
        refine sl_op rfl (al_api_Merge rfl (fun b59 w60 hN61 => ?_))
        have hB62 := hN61.here
        replace h := h b59 w60 ⟨hx.tr hN61.ext, Nat.le_trans hx.size hN61.fresh, lt_of_blk hN61.here⟩
        replace hx : Ext w60 w60 := Chg.refl _
        refine sl_op rfl (st_api_Merge (vs := [.string v57_0, .string v57_1]) rfl rfl rfl rfl rfl ⟨_, _, hB62, Nat.le_of_ble_eq_true rfl⟩ (fun w63 hw64 => ?_))
        have hc_ := sto_chg hw64
        replace hB62 : w63.heap[b59]? = some (.cells #[.string v57_0, .string v57_1] t_api_Merge (0, 0)) := sto_blk hw64 hB62
        replace h := h w63 (Chg.pre hx hc_)
        replace hx : Ext w63 w63 := Chg.refl _
        clear hc_
        refine sl_nil ?_
        refine cw_seq ?_
        refine cw_region ?_
        refine sl_v rfl (fa_api_Merge_0 (o' := 0) rfl rfl) ?_
        refine sl_v rfl (ld_string rfl (cell_blk hB62 rfl)) ?_
        refine sl_v rfl (fa_api_Merge_1 (o' := 1) rfl rfl) ?_
        refine sl_v rfl (ld_string rfl (cell_blk hB62 rfl)) ?_
        obtain ⟨hs65, h⟩ := h
        refine sl_v rfl (s_cat rfl rfl hs65) ?_
        refine sl_v rfl (r_as rfl) ?_
        refine sl_nil ?_
        refine cw_seq ?_
        refine cw_tail 21 mo (by kernel_rfl) (fun w66 hd67 => ?_)
        replace hB62 := (Ext.of_drew hd67).get hB62
        replace hx := hx.tr (Ext.of_drew hd67)
        refine st_v rfl (r_mv rfl) ?_
        refine st_v rfl (r_nc rfl) ?_
        refine st_v rfl (fa_vocab_Vocab_0 (o' := 0) rfl rfl) ?_
        obtain ⟨v68, hc69, h⟩ := h
        refine st_v rfl (ld_map_string_int rfl (hx.cell hc69)) ?_
        refine st_v rfl (r_mv rfl) ?_
        refine st_v rfl (r_mv rfl) ?_
        refine st_v rfl (r_nc rfl) ?_
        refine st_v rfl (fa_vocab_Vocab_0 (o' := 0) rfl rfl) ?_
        refine st_v rfl (ld_map_string_int rfl (hx.cell hc69)) ?_
        refine st_v rfl (fa_api_Merge_0 (o' := 0) rfl rfl) ?_
        refine st_v rfl (ld_string rfl (cell_blk hB62 rfl)) ?_
        obtain ⟨es70, hm71, h⟩ := h
        obtain ⟨z72, hz72, h⟩ := h
        refine st_v rfl (RV.cast (v' := .int .i64 z72) (by subst hz72; rfl) (lk_map_string_int (a := v57_0) rfl rfl (Mp.ext hx hm71))) ?_
        refine st_v rfl (r_mv rfl) ?_
        refine st_v rfl (r_nc rfl) ?_
        refine st_v rfl (fa_vocab_Vocab_0 (o' := 0) rfl rfl) ?_
        refine st_v rfl (ld_map_string_int rfl (hx.cell hc69)) ?_
        refine st_v rfl (fa_api_Merge_1 (o' := 1) rfl rfl) ?_
        refine st_v rfl (ld_string rfl (cell_blk hB62 rfl)) ?_
        obtain ⟨z73, hz73, h⟩ := h
        refine st_v rfl (RV.cast (v' := .int .i64 z73) (by subst hz73; rfl) (lk_map_string_int (a := v57_1) rfl rfl (Mp.ext hx hm71))) ?_
        refine st_v rfl (r_max rfl rfl) ?_
        obtain ⟨z74, hz74, h⟩ := h
        refine st_v rfl (r_add rfl rfl hz74) ?_
        refine st_nil ?_
        replace h := h _ hx
        replace hx : Ext w66 w66 := Chg.refl _
        obtain ⟨b80, rfl, h⟩ := h
        obtain ⟨es81, hm79, h⟩ := h
        obtain ⟨hn82, h⟩ := h
        refine tl_op rfl (mu_map_string_int (a := v57_0 ++ v57_1) (c := z74) rfl rfl rfl hm79 (fun w76 hq77 hc78 => ?_))
        replace hB62 := hc78.get hB62 hn82
        replace h := h w76 hq77 hc78
        replace hx : Ext w76 w76 := Chg.refl _
        refine tl_nil ?_
        refine cw_seq ?_
        refine cw_tail 8 mo (by kernel_rfl) (fun w83 hd84 => ?_)
        replace hB62 := (Ext.of_drew hd84).get hB62
        replace hx := hx.tr (Ext.of_drew hd84)
        refine st_v rfl (r_mv rfl) ?_
        refine st_v rfl (r_nc rfl) ?_
        refine st_v rfl (fa_vocab_Vocab_1 (o' := 1) rfl rfl) ?_
        obtain ⟨v85, hc86, h⟩ := h
        refine st_v rfl (ld_map_string_int rfl (hx.cell hc86)) ?_
        refine st_v rfl (fa_api_Merge_0 (o' := 0) rfl rfl) ?_
        refine st_v rfl (ld_string rfl (cell_blk hB62 rfl)) ?_
        obtain ⟨es87, hm88, h⟩ := h
        obtain ⟨z89, hz89, h⟩ := h
        refine st_v rfl (RV.cast (v' := .int .i64 z89) (by subst hz89; rfl) (lk_map_string_int (a := v57_0) rfl rfl (Mp.ext hx hm88))) ?_
        obtain ⟨z90, hz90, h⟩ := h
        refine st_v rfl (r_add rfl rfl hz90) ?_
        refine st_nil ?_
        replace h := h _ hx
        replace hx : Ext w83 w83 := Chg.refl _
        obtain ⟨b96, rfl, h⟩ := h
        obtain ⟨es97, hm95, h⟩ := h
        obtain ⟨hn98, h⟩ := h
        refine tl_op rfl (mu_map_string_int (a := v57_0) (c := z90) rfl rfl rfl hm95 (fun w92 hq93 hc94 => ?_))
        replace hB62 := hc94.get hB62 hn98
        replace h := h w92 hq93 hc94
        replace hx : Ext w92 w92 := Chg.refl _
        refine tl_nil ?_
        refine cw_seq ?_
        refine cw_tail 8 mo (by kernel_rfl) (fun w99 hd100 => ?_)
        replace hB62 := (Ext.of_drew hd100).get hB62
        replace hx := hx.tr (Ext.of_drew hd100)
        refine st_v rfl (r_mv rfl) ?_
        refine st_v rfl (r_nc rfl) ?_
        refine st_v rfl (fa_vocab_Vocab_1 (o' := 1) rfl rfl) ?_
        obtain ⟨v101, hc102, h⟩ := h
        refine st_v rfl (ld_map_string_int rfl (hx.cell hc102)) ?_
        refine st_v rfl (fa_api_Merge_1 (o' := 1) rfl rfl) ?_
        refine st_v rfl (ld_string rfl (cell_blk hB62 rfl)) ?_
        obtain ⟨es103, hm104, h⟩ := h
        obtain ⟨z105, hz105, h⟩ := h
        refine st_v rfl (RV.cast (v' := .int .i64 z105) (by subst hz105; rfl) (lk_map_string_int (a := v57_1) rfl rfl (Mp.ext hx hm104))) ?_
        obtain ⟨z106, hz106, h⟩ := h
        refine st_v rfl (r_add rfl rfl hz106) ?_
        refine st_nil ?_
        replace h := h _ hx
        replace hx : Ext w99 w99 := Chg.refl _
        obtain ⟨b112, rfl, h⟩ := h
        obtain ⟨es113, hm111, h⟩ := h
        obtain ⟨hn114, h⟩ := h
        refine tl_op rfl (mu_map_string_int (a := v57_1) (c := z106) rfl rfl rfl hm111 (fun w108 hq109 hc110 => ?_))
        replace hB62 := hc110.get hB62 hn114
        replace h := h w108 hq109 hc110
        replace hx : Ext w108 w108 := Chg.refl _
        refine tl_nil ?_
        refine cw_region ?_
        refine sl_v rfl (r_mv rfl) ?_
        refine sl_v rfl (r_mv rfl) ?_
        refine sl_v rfl (r_nc rfl) ?_
        refine sl_v rfl (fa_vocab_Vocab_2 (o' := 2) rfl rfl) ?_
        obtain ⟨v115, hc116, h⟩ := h
        refine sl_v rfl (ld_int rfl hc116) ?_
        refine sl_v rfl (r_mv rfl) ?_
        refine sl_v rfl (r_len_s rfl rfl Try.underlying9) ?_
        refine sl_v rfl (r_max rfl rfl) ?_
        refine sl_v rfl (r_nc rfl) ?_
        refine sl_v rfl (fa_vocab_Vocab_2 (o' := 2) rfl rfl) ?_
        obtain ⟨hW119, h⟩ := h
        obtain ⟨hn120, h⟩ := h
        refine sl_op rfl (st_int (vs := [.int .i64 (max v115 (((v57_0 ++ v57_1).size : Nat) : Int))]) rfl rfl rfl rfl rfl hW119 (fun w117 hw118 => ?_))
        replace hB62 := (sto_chg hw118).get hB62 hn120
        replace h := h w117 hw118
        replace hx : Ext w117 w117 := Chg.refl _
        refine sl_nil ?_
        refine cw_region ?_
        obtain ⟨z121, hz121, h⟩ := h
        refine sl_v rfl (r_add rfl rfl hz121) ?_
        refine sl_v rfl (r_mv rfl) ?_
        refine sl_nil ?_
        exact ⟨(z121), _, (kp (kp (kp (kp (kn rfl) rfl) rfl) rfl) rfl), h.1, h.2⟩
      · replace h := h.2 (of_decide_eq_false hb51)
        refine cw_cf rfl hb51 ?_
        refine cw_exit ?_
        refine cw_seq ?_
        refine cw_region ?_
        refine sl_v rfl (r_mv rfl) ?_
        refine sl_v rfl (r_as rfl) ?_
        refine sl_v rfl (r_as rfl) ?_
        refine sl_nil ?_
        refine cw_ret ?_
        exact rs_2 (rt rfl) (rt rfl) ⟨some ⟨b13, 0, none⟩, 0, rfl, h⟩
end Go.Proofs.Ytchjcjocihckpaa.G
