/- What is to be shown of each function, and that it is enough. -/
import Derived.Test.YtchjcjocihckpaaTC
set_option linter.unusedVariables false
namespace Go.Proofs.Ytchjcjocihckpaa.G
open Go Go.RowKit
def VC_law20_ApplyLearnt (a0 : Sl) (a1 : Int) (a2 : Int) (R : Bool → World → Prop) (w : World) : Prop :=
  Calls PP n_law20_awake #[] w (fun e w2 => ∃ r5 : Bool, e = .returned (.bool r5) ∧ ((r5 = true → (Calls PP n_ref07_Great #[a0.v, .int .i64 60] w2 (fun e w8 => ∃ r11 : Bool, e = .returned (.bool r11) ∧ ((r11 = true → (R true w8)) ∧ (r11 = false → (Calls PP n_ref08_Positions #[a0.v] w8 (fun e w14 => ∃ r17 : Int, e = .returned (.int .i64 r17) ∧ (((300 : Int) < r17 → (R true w14)) ∧ (¬ ((300 : Int) < r17) → (Calls PP n_ref16_Learn #[a0.v, .int .i64 a1, .int .i64 a2] w14 (fun e w20 => ∃ r23 : Sl, e = .returned (r23.v) ∧ (Calls PP n_apply_New #[r23.v] w20 (fun e w25 => ∃ r28_0 : Option Addr, ∃ r28_1 : Int, e = .returned (.tuple #[.pointer r28_0, .int .i64 r28_1]) ∧ ((r28_1 ≠ (0 : Int) → (R false w25)) ∧ (¬ (r28_1 ≠ (0 : Int)) → ((r28_0 = none → (R false w25)) ∧ (¬ (r28_0 = none) → (Calls PP n_ref17_Words #[a0.v, r23.v] w25 (fun e w32 => ∃ r35 : Sl, e = .returned (r35.v) ∧ (∃ (I37 : Int → World → Prop) (μ38 : Int → World → Nat), I37 0 w32 ∧ ∀ (l36 : Int) (w40 : World), I37 l36 w40 → ((l36 < ((a0.n : Nat) : Int) → (∃ k44 : Nat, l36 = ((k44 : Nat) : Int) ∧ k44 < a0.n ∧ (∃ (b46 o47 : Nat), a0.b = some ⟨b46, o47, none⟩ ∧ (∃ v49 : ByteArray, w40.cell? ⟨b46, o47 + k44 * 2, none⟩ = some (.string v49) ∧ (k44 < r35.n ∧ (∃ (b52 o53 : Nat), r35.b = some ⟨b52, o53, none⟩ ∧ (∃ v55 : Sl, w40.cell? ⟨b52, o53 + k44 * 1, none⟩ = some (v55.v) ∧ (∀ w57 : World, Ext w40 w57 → (Calls PP n_apply_Coder_Split #[.pointer r28_0, .string v49] w57 (fun e w61 => ∃ r64 : Sl, e = .returned (r64.v) ∧ (w61.cell? ⟨b46, o47 + k44 * 2, none⟩ = some (.string v49) ∧ (w61.cell? ⟨b52, o53 + k44 * 1, none⟩ = some (v55.v) ∧ (Calls PP n_ref01_Texts #[r64.v, v55.v] w61 (fun e w68 => ∃ r71 : Bool, e = .returned (.bool r71) ∧ (w68.cell? ⟨b46, o47 + k44 * 2, none⟩ = some (.string v49) ∧ (w68.cell? ⟨b52, o53 + k44 * 1, none⟩ = some (v55.v) ∧ ((r71 = true → (∃ z75 : Int, z75 = IntKind.wrap .i64 (((k44 : Nat) : Int) + 1) ∧ (I37 z75 w68 ∧ μ38 z75 w68 < μ38 l36 w40))) ∧ (r71 = false → (R false w68))))))))))))))))))) ∧ (¬ (l36 < ((a0.n : Nat) : Int)) → (R true w40))))))))))))))))))))))) ∧ (r5 = false → (R false w2))))
set_option maxRecDepth 100000 in
theorem vc_law20_ApplyLearnt {a0 : Sl} {a1 : Int} {a2 : Int} {R : Bool → World → Prop} {w : World} (h : VC_law20_ApplyLearnt a0 a1 a2 R w) : Calls PP n_law20_ApplyLearnt #[a0.v, .int .i64 a1, .int .i64 a2] w fun e w' => ∃ r0 : Bool, e = .returned (.bool r0) ∧ R r0 w' := by
  refine Calls.mono (calls_of_cw (n := 58) (rs := #[.tmp 6]) (args := [a0.v, .int .i64 a1, .int .i64 a2]) (R := fun v w' => ∃ r0 : Bool, v = .bool r0 ∧ R r0 w') Try.func5 rfl rfl (Nat.le_of_ble_eq_true rfl) rfl ?_) ?_
  case refine_2 => rintro e w' ⟨v, rfl, hr⟩; obtain ⟨r0, rfl, hr⟩ := hr; exact ⟨r0, rfl, hr⟩
  have hx : Ext w w := Chg.refl _
  unfold VC_law20_ApplyLearnt at h
  refine cw_seq ?_
  refine cw_region ?_
  refine sl_v rfl (r_as rfl) ?_
  refine sl_nil ?_
  refine cw_seq ?_
  refine cw_seq ?_
  refine cw_region ?_
  refine sl_op rfl (ok_call c_law20_awake rfl (Calls.mono h (fun e1 w2 hq3 => ?_)))
  clear h
  obtain ⟨r5, he4, h⟩ := hq3
  refine ⟨_, he4, ?_⟩
  replace hx : Ext w2 w2 := Chg.refl _
  refine sl_v rfl (r_not rfl) ?_
  refine sl_nil ?_
  refine bcases (r5) (fun hb6 => ?_) (fun hb6 => ?_)
  · replace h := h.1 hb6
    refine cw_cf rfl (nt hb6) ?_
    refine cw_skip ?_
    refine cw_seq ?_
    refine cw_seq ?_
    refine cw_region ?_
    refine sl_v rfl (r_mv rfl) ?_
    refine sl_op rfl (ok_call c_ref07_Great rfl (Calls.mono h (fun e7 w8 hq9 => ?_)))
    clear h
    obtain ⟨r11, he10, h⟩ := hq9
    refine ⟨_, he10, ?_⟩
    replace hx : Ext w8 w8 := Chg.refl _
    refine sl_v rfl (r_mv rfl) ?_
    refine bcases (r11) (fun hb12 => ?_) (fun hb12 => ?_)
    · replace h := h.1 hb12
      refine sl_no rfl rfl rfl hb12 ?_
      refine sl_no rfl rfl rfl hb12 ?_
      refine sl_no rfl rfl rfl hb12 ?_
      refine sl_v rfl (r_pt rfl hb12 rfl) ?_
      refine sl_nil ?_
      refine cw_ct rfl rfl ?_
      refine cw_seq ?_
      refine cw_region ?_
      refine sl_v rfl (r_as rfl) ?_
      refine sl_nil ?_
      refine cw_ret ?_
      exact rs_1 (rt rfl) ⟨true, rfl, h⟩
    · replace h := h.2 hb12
      refine sl_vg rfl rfl rfl hb12 (r_mv rfl) ?_
      refine sl_g rfl rfl rfl hb12 (ok_call c_ref08_Positions rfl (Calls.mono h (fun e13 w14 hq15 => ?_)))
      clear h
      obtain ⟨r17, he16, h⟩ := hq15
      refine ⟨_, he16, ?_⟩
      replace hx : Ext w14 w14 := Chg.refl _
      refine sl_vg rfl rfl rfl hb12 (r_gtr rfl rfl) ?_
      refine sl_v rfl (r_pf rfl hb12 rfl) ?_
      refine sl_nil ?_
      refine bcases (decide ((300 : Int) < r17)) (fun hb18 => ?_) (fun hb18 => ?_)
      · replace h := h.1 (of_decide_eq_true hb18)
        refine cw_ct rfl hb18 ?_
        refine cw_seq ?_
        refine cw_region ?_
        refine sl_v rfl (r_as rfl) ?_
        refine sl_nil ?_
        refine cw_ret ?_
        exact rs_1 (rt rfl) ⟨true, rfl, h⟩
      · replace h := h.2 (of_decide_eq_false hb18)
        refine cw_cf rfl hb18 ?_
        refine cw_skip ?_
        refine cw_seq ?_
        refine cw_region ?_
        refine sl_v rfl (r_mv rfl) ?_
        refine sl_v rfl (r_mv rfl) ?_
        refine sl_v rfl (r_mv rfl) ?_
        refine sl_op rfl (ok_call c_ref16_Learn rfl (Calls.mono h (fun e19 w20 hq21 => ?_)))
        clear h
        obtain ⟨r23, he22, h⟩ := hq21
        refine ⟨_, he22, ?_⟩
        replace hx : Ext w20 w20 := Chg.refl _
        refine sl_v rfl (r_as rfl) ?_
        refine sl_nil ?_
        refine cw_seq ?_
        refine cw_region ?_
        refine sl_v rfl (r_mv rfl) ?_
        refine sl_op rfl (ok_call c_apply_New rfl (Calls.mono h (fun e24 w25 hq26 => ?_)))
        clear h
        obtain ⟨r28_0, r28_1, he27, h⟩ := hq26
        refine ⟨_, he27, ?_⟩
        replace hx : Ext w25 w25 := Chg.refl _
        refine sl_v rfl (r_mv rfl) ?_
        refine sl_v rfl (r_ex rfl rfl) ?_
        refine sl_v rfl (r_ex rfl rfl) ?_
        refine sl_v rfl (r_as rfl) ?_
        refine sl_v rfl (r_as rfl) ?_
        refine sl_nil ?_
        refine cw_seq ?_
        refine cw_seq ?_
        refine cw_region ?_
        refine sl_v rfl (r_mv rfl) ?_
        refine sl_v rfl (r_neq rfl rfl) ?_
        refine sl_v rfl (r_mv rfl) ?_
        refine bcases (decide (r28_1 ≠ (0 : Int))) (fun hb29 => ?_) (fun hb29 => ?_)
        · replace h := h.1 (of_decide_eq_true hb29)
          refine sl_no rfl rfl rfl hb29 ?_
          refine sl_no rfl rfl rfl hb29 ?_
          refine sl_v rfl (r_pt rfl hb29 rfl) ?_
          refine sl_nil ?_
          refine cw_ct rfl rfl ?_
          refine cw_seq ?_
          refine cw_region ?_
          refine sl_v rfl (r_as rfl) ?_
          refine sl_nil ?_
          refine cw_ret ?_
          exact rs_1 (rt rfl) ⟨false, rfl, h⟩
        · replace h := h.2 (of_decide_eq_false hb29)
          refine sl_vg rfl rfl rfl hb29 (r_mv rfl) ?_
          refine sl_vg rfl rfl rfl hb29 (p_eqn rfl rfl Try.underlying50) ?_
          refine sl_v rfl (r_pf rfl hb29 rfl) ?_
          refine sl_nil ?_
          refine bcases (decide (r28_0 = none)) (fun hb30 => ?_) (fun hb30 => ?_)
          · replace h := h.1 (of_decide_eq_true hb30)
            refine cw_ct rfl hb30 ?_
            refine cw_seq ?_
            refine cw_region ?_
            refine sl_v rfl (r_as rfl) ?_
            refine sl_nil ?_
            refine cw_ret ?_
            exact rs_1 (rt rfl) ⟨false, rfl, h⟩
          · replace h := h.2 (of_decide_eq_false hb30)
            refine cw_cf rfl hb30 ?_
            refine cw_skip ?_
            refine cw_seq ?_
            refine cw_region ?_
            refine sl_v rfl (r_mv rfl) ?_
            refine sl_v rfl (r_mv rfl) ?_
            refine sl_op rfl (ok_call c_ref17_Words rfl (Calls.mono h (fun e31 w32 hq33 => ?_)))
            clear h
            obtain ⟨r35, he34, h⟩ := hq33
            refine ⟨_, he34, ?_⟩
            replace hx : Ext w32 w32 := Chg.refl _
            refine sl_v rfl (r_as rfl) ?_
            refine sl_nil ?_
            refine cw_seq ?_
            refine cw_seq ?_
            refine cw_region ?_
            refine sl_v rfl (r_as rfl) ?_
            refine sl_nil ?_
            refine cw_block ?_
            obtain ⟨I37, μ38, hI39, h⟩ := h
            refine cw_loop (σ := Int) (fun s g => (upd (upd (upd (upd (nm g []) 0 (a0.v)) 8 (.pointer r28_0)) 10 (r35.v)) 11 (.int .i64 s))) (fun s w => I37 s w) (fun s w => μ38 s w) (0) _ (kp (kp (kp (kp (kn rfl) rfl) rfl) rfl) rfl) hI39 ?_
            rintro l36 g41 w40 hi42
            replace h := h l36 w40 hi42
            have hx : Ext w40 w40 := Chg.refl _
            change CW _ PP _ _ _ (upd (upd (upd (upd (nm g41 []) 0 (a0.v)) 8 (.pointer r28_0)) 10 (r35.v)) 11 (.int .i64 l36)) _
            refine cw_seq ?_
            refine cw_seq ?_
            refine cw_region ?_
            refine sl_v rfl (r_mv rfl) ?_
            refine sl_v rfl (r_mv rfl) ?_
            refine sl_v rfl (r_len_l (s := a0) rfl rfl Try.underlying46) ?_
            refine sl_v rfl (r_lss rfl rfl) ?_
            refine sl_nil ?_
            refine bcases (decide (l36 < ((a0.n : Nat) : Int))) (fun hb43 => ?_) (fun hb43 => ?_)
            · replace h := h.1 (of_decide_eq_true hb43)
              refine cw_ct rfl hb43 ?_
              refine cw_skip ?_
              refine cw_seq ?_
              refine cw_block ?_
              refine cw_seq ?_
              obtain ⟨k44, rfl, hk45, h⟩ := h
              obtain ⟨b46, o47, hb48, h⟩ := h
              obtain ⟨v49, hc50, h⟩ := h
              obtain ⟨hk51, h⟩ := h
              obtain ⟨b52, o53, hb54, h⟩ := h
              obtain ⟨v55, hc56, h⟩ := h
              refine cw_dw (S := fun w' => w'.cell? ⟨b46, o47 + k44 * 2, none⟩ = some (.string v49) ∧ w'.cell? ⟨b52, o53 + k44 * 1, none⟩ = some (v55.v) ∧ True) mo (fun w57 hd58 => ?_)
              replace hx := hx.tr (Ext.of_drew hd58)
              have hS : w57.cell? ⟨b46, o47 + k44 * 2, none⟩ = some (.string v49) ∧ w57.cell? ⟨b52, o53 + k44 * 1, none⟩ = some (v55.v) ∧ True := ⟨hx.cell hc50, hx.cell hc56, trivial⟩
              refine dw_t 0 1 rfl (by kernel_rfl) rfl hS (fun _ _ => (r_mv rfl)) ?_
              refine dw_t 1 3 rfl (by kernel_rfl) rfl hS (fun _ _ => (r_mv rfl)) ?_
              refine dw_t 2 7 rfl (by kernel_rfl) rfl hS (fun _ _ => (r_mv rfl)) ?_
              refine dw_t 3 15 rfl (by kernel_rfl) rfl hS (fun _ _ => (ia_sl_api_Word (s := a0) (j := k44) (o' := o47 + k44 * 2) rfl rfl hk45 hb48 rfl)) ?_
              refine dw_t 4 31 rfl (by kernel_rfl) rfl hS (fun _ _ => (fa_api_Word_0 (o' := o47 + k44 * 2) rfl rfl)) ?_
              refine dw_t 5 63 rfl (by kernel_rfl) rfl hS (fun _ hS => (ld_string rfl hS.1)) ?_
              refine dw_t 7 191 rfl (by kernel_rfl) rfl hS (fun _ _ => (r_mv rfl)) ?_
              refine dw_t 8 447 rfl (by kernel_rfl) rfl hS (fun _ _ => (r_mv rfl)) ?_
              refine dw_t 9 959 rfl (by kernel_rfl) rfl hS (fun _ _ => (ia_sl_sl_string (s := r35) (j := k44) (o' := o53 + k44 * 1) rfl rfl hk51 hb54 rfl)) ?_
              refine dw_t 10 1983 rfl (by kernel_rfl) rfl hS (fun _ hS => (ld_sl_string rfl hS.2.1)) ?_
              replace h := h _ hx
              replace hx : Ext w57 w57 := Chg.refl _
              refine dw_l 6 2047 rfl (by kernel_rfl) rfl (ok_call c_apply_Coder_Split rfl (Calls.mono h (fun e60 w61 hq62 => ?_)))
              clear h
              obtain ⟨r64, he63, h⟩ := hq62
              refine ⟨_, he63, ?_⟩
              replace hx : Ext w61 w61 := Chg.refl _
              obtain ⟨hq65, h⟩ := h
              obtain ⟨hq66, h⟩ := h
              replace hS : w61.cell? ⟨b46, o47 + k44 * 2, none⟩ = some (.string v49) ∧ w61.cell? ⟨b52, o53 + k44 * 1, none⟩ = some (v55.v) ∧ True := ⟨hq65, hq66, trivial⟩
              refine ⟨hS, ?_⟩
              refine dw_l 11 4095 rfl (by kernel_rfl) rfl (ok_call c_ref01_Texts rfl (Calls.mono h (fun e67 w68 hq69 => ?_)))
              clear h
              obtain ⟨r71, he70, h⟩ := hq69
              refine ⟨_, he70, ?_⟩
              replace hx : Ext w68 w68 := Chg.refl _
              obtain ⟨hq72, h⟩ := h
              obtain ⟨hq73, h⟩ := h
              replace hS : w68.cell? ⟨b46, o47 + k44 * 2, none⟩ = some (.string v49) ∧ w68.cell? ⟨b52, o53 + k44 * 1, none⟩ = some (v55.v) ∧ True := ⟨hq72, hq73, trivial⟩
              refine ⟨hS, ?_⟩
              refine dw_t 12 8191 rfl (by kernel_rfl) rfl hS (fun _ _ => (r_not rfl)) ?_
              refine dw_d (by kernel_rfl) ?_
              clear hS
              refine bcases (r71) (fun hb74 => ?_) (fun hb74 => ?_)
              · replace h := h.1 hb74
                refine cw_cf rfl (nt hb74) ?_
                refine cw_skip ?_
                refine cw_region ?_
                refine sl_v rfl (r_mv rfl) ?_
                obtain ⟨z75, hz75, h⟩ := h
                refine sl_v rfl (r_add rfl rfl hz75) ?_
                refine sl_v rfl (r_as rfl) ?_
                refine sl_nil ?_
                exact ⟨(z75), _, (kp (kp (kp (kp (kn rfl) rfl) rfl) rfl) rfl), h.1, h.2⟩
              · replace h := h.2 hb74
                refine cw_ct rfl (nf hb74) ?_
                refine cw_seq ?_
                refine cw_region ?_
                refine sl_v rfl (r_as rfl) ?_
                refine sl_nil ?_
                refine cw_ret ?_
                exact rs_1 (rt rfl) ⟨false, rfl, h⟩
            · replace h := h.2 (of_decide_eq_false hb43)
              refine cw_cf rfl hb43 ?_
              refine cw_exit ?_
              refine cw_seq ?_
              refine cw_region ?_
              refine sl_v rfl (r_as rfl) ?_
              refine sl_nil ?_
              refine cw_ret ?_
              exact rs_1 (rt rfl) ⟨true, rfl, h⟩
  · replace h := h.2 hb6
    refine cw_ct rfl (nf hb6) ?_
    refine cw_seq ?_
    refine cw_region ?_
    refine sl_v rfl (r_as rfl) ?_
    refine sl_nil ?_
    refine cw_ret ?_
    exact rs_1 (rt rfl) ⟨false, rfl, h⟩
def VC_law20_ApplyCodes (a0 : Sl) (a1 : ByteArray) (a2 : Sl) (a3 : Sl) (R : Bool → World → Prop) (w : World) : Prop :=
  Calls PP n_law20_awake #[] w (fun e w2 => ∃ r5 : Bool, e = .returned (.bool r5) ∧ ((r5 = true → (Calls PP n_ref18_Great #[a0.v, .int .i64 60] w2 (fun e w8 => ∃ r11 : Bool, e = .returned (.bool r11) ∧ ((r11 = true → (R true w8)) ∧ (r11 = false → (((200 : Int) < ((a1.size : Nat) : Int) → (R true w8)) ∧ (¬ ((200 : Int) < ((a1.size : Nat) : Int)) → (((100 : Int) < ((a2.n : Nat) : Int) → (R true w8)) ∧ (¬ ((100 : Int) < ((a2.n : Nat) : Int)) → (Calls PP n_ref07_Great #[a3.v, .int .i64 20] w8 (fun e w16 => ∃ r19 : Bool, e = .returned (.bool r19) ∧ ((r19 = true → (R true w16)) ∧ (r19 = false → (Calls PP n_apply_New #[a0.v] w16 (fun e w22 => ∃ r25_0 : Option Addr, ∃ r25_1 : Int, e = .returned (.tuple #[.pointer r25_0, .int .i64 r25_1]) ∧ (Calls PP n_ref18_Check #[a0.v] w22 (fun e w27 => ∃ r30_0 : Int, ∃ r30_1 : Int, e = .returned (.tuple #[.int .i64 r30_0, .int .i64 r30_1]) ∧ ((r25_1 ≠ r30_1 → (R false w27)) ∧ (¬ (r25_1 ≠ r30_1) → (((decide (r25_0 = none)) ≠ (decide (r30_1 ≠ (0 : Int))) → (R false w27)) ∧ (¬ ((decide (r25_0 = none)) ≠ (decide (r30_1 ≠ (0 : Int)))) → ((r30_1 ≠ (0 : Int) → (R true w27)) ∧ (¬ (r30_1 ≠ (0 : Int)) → ((r25_0 = none → (R true w27)) ∧ (¬ (r25_0 = none) → (Calls PP n_apply_Coder_Decode #[.pointer r25_0, a2.v] w27 (fun e w36 => ∃ r39_0 : ByteArray, ∃ r39_1 : Bool, e = .returned (.tuple #[.string r39_0, .bool r39_1]) ∧ (Calls PP n_ref20_Decode #[a0.v, a2.v] w36 (fun e w41 => ∃ r44_0 : ByteArray, ∃ r44_1 : Bool, e = .returned (.tuple #[.string r44_0, .bool r44_1]) ∧ (Calls PP n_apply_Coder_Count #[.pointer r25_0, a3.v] w41 (fun e w46 => ∃ r49_0 : Int, ∃ r49_1 : Bool, e = .returned (.tuple #[.int .i64 r49_0, .bool r49_1]) ∧ (Calls PP n_ref20_Count #[a0.v, a3.v] w46 (fun e w51 => ∃ r54_0 : Int, ∃ r54_1 : Bool, e = .returned (.tuple #[.int .i64 r54_0, .bool r54_1]) ∧ (Calls PP n_apply_Coder_Split #[.pointer r25_0, .string a1] w51 (fun e w56 => ∃ r59 : Sl, e = .returned (r59.v) ∧ (Calls PP n_ref20_Split #[a0.v, .string a1] w56 (fun e w61 => ∃ r64 : Sl, e = .returned (r64.v) ∧ (Calls PP n_ref01_Texts #[r59.v, r64.v] w61 (fun e w66 => ∃ r69 : Bool, e = .returned (.bool r69) ∧ ((r69 = true → (Calls PP n_apply_Coder_Encode #[.pointer r25_0, .string a1] w66 (fun e w72 => ∃ r75 : Sl, e = .returned (r75.v) ∧ (Calls PP n_ref20_Encode #[a0.v, .string a1] w72 (fun e w77 => ∃ r80 : Sl, e = .returned (r80.v) ∧ (Calls PP n_ref01_Ints #[r75.v, r80.v] w77 (fun e w82 => ∃ r85 : Bool, e = .returned (.bool r85) ∧ ((r85 = true → ((r39_0 = r44_0 → ((r39_1 = r44_1 → ((r49_0 = r54_0 → ((r49_1 = r54_1 → (Calls PP n_apply_Coder_Size #[.pointer r25_0] w82 (fun e w92 => ∃ r95 : Int, e = .returned (.int .i64 r95) ∧ (∃ z96 : Int, z96 = IntKind.wrap .i64 (256 + ((a0.n : Nat) : Int)) ∧ (R (decide (r95 = z96)) w92))))) ∧ (¬ (r49_1 = r54_1) → (R false w82)))) ∧ (¬ (r49_0 = r54_0) → (R false w82)))) ∧ (¬ (r39_1 = r44_1) → (R false w82)))) ∧ (¬ (r39_0 = r44_0) → (R false w82)))) ∧ (r85 = false → (R false w82)))))))))) ∧ (r69 = false → (R false w66)))))))))))))))))))))))))))))))))))))))))) ∧ (r5 = false → (R false w2))))
set_option maxRecDepth 100000 in
theorem vc_law20_ApplyCodes {a0 : Sl} {a1 : ByteArray} {a2 : Sl} {a3 : Sl} {R : Bool → World → Prop} {w : World} (h : VC_law20_ApplyCodes a0 a1 a2 a3 R w) : Calls PP n_law20_ApplyCodes #[a0.v, .string a1, a2.v, a3.v] w fun e w' => ∃ r0 : Bool, e = .returned (.bool r0) ∧ R r0 w' := by
  refine Calls.mono (calls_of_cw (n := 133) (rs := #[.tmp 8]) (args := [a0.v, .string a1, a2.v, a3.v]) (R := fun v w' => ∃ r0 : Bool, v = .bool r0 ∧ R r0 w') Try.func6 rfl rfl (Nat.le_of_ble_eq_true rfl) rfl ?_) ?_
  case refine_2 => rintro e w' ⟨v, rfl, hr⟩; obtain ⟨r0, rfl, hr⟩ := hr; exact ⟨r0, rfl, hr⟩
  have hx : Ext w w := Chg.refl _
  unfold VC_law20_ApplyCodes at h
  refine cw_seq ?_
  refine cw_region ?_
  refine sl_v rfl (r_as rfl) ?_
  refine sl_nil ?_
  refine cw_seq ?_
  refine cw_seq ?_
  refine cw_region ?_
  refine sl_op rfl (ok_call c_law20_awake rfl (Calls.mono h (fun e1 w2 hq3 => ?_)))
  clear h
  obtain ⟨r5, he4, h⟩ := hq3
  refine ⟨_, he4, ?_⟩
  replace hx : Ext w2 w2 := Chg.refl _
  refine sl_v rfl (r_not rfl) ?_
  refine sl_nil ?_
  refine bcases (r5) (fun hb6 => ?_) (fun hb6 => ?_)
  · replace h := h.1 hb6
    refine cw_cf rfl (nt hb6) ?_
    refine cw_skip ?_
    refine cw_seq ?_
    refine cw_seq ?_
    refine cw_region ?_
    refine sl_v rfl (r_mv rfl) ?_
    refine sl_op rfl (ok_call c_ref18_Great rfl (Calls.mono h (fun e7 w8 hq9 => ?_)))
    clear h
    obtain ⟨r11, he10, h⟩ := hq9
    refine ⟨_, he10, ?_⟩
    replace hx : Ext w8 w8 := Chg.refl _
    refine sl_v rfl (r_mv rfl) ?_
    refine bcases (r11) (fun hb12 => ?_) (fun hb12 => ?_)
    · replace h := h.1 hb12
      refine sl_no rfl rfl rfl hb12 ?_
      refine sl_no rfl rfl rfl hb12 ?_
      refine sl_no rfl rfl rfl hb12 ?_
      refine sl_v rfl (r_pt rfl hb12 rfl) ?_
      refine sl_v rfl (r_mv rfl) ?_
      refine sl_no rfl rfl rfl rfl ?_
      refine sl_no rfl rfl rfl rfl ?_
      refine sl_no rfl rfl rfl rfl ?_
      refine sl_v rfl (r_pt rfl rfl rfl) ?_
      refine sl_v rfl (r_mv rfl) ?_
      refine sl_no rfl rfl rfl rfl ?_
      refine sl_no rfl rfl rfl rfl ?_
      refine sl_v rfl (r_pt rfl rfl rfl) ?_
      refine sl_nil ?_
      refine cw_ct rfl rfl ?_
      refine cw_seq ?_
      refine cw_region ?_
      refine sl_v rfl (r_as rfl) ?_
      refine sl_nil ?_
      refine cw_ret ?_
      exact rs_1 (rt rfl) ⟨true, rfl, h⟩
    · replace h := h.2 hb12
      refine sl_vg rfl rfl rfl hb12 (r_mv rfl) ?_
      refine sl_vg rfl rfl rfl hb12 (r_len_s rfl rfl Try.underlying9) ?_
      refine sl_vg rfl rfl rfl hb12 (r_gtr rfl rfl) ?_
      refine sl_v rfl (r_pf rfl hb12 rfl) ?_
      refine sl_v rfl (r_mv rfl) ?_
      refine bcases (decide ((200 : Int) < ((a1.size : Nat) : Int))) (fun hb13 => ?_) (fun hb13 => ?_)
      · replace h := h.1 (of_decide_eq_true hb13)
        refine sl_no rfl rfl rfl hb13 ?_
        refine sl_no rfl rfl rfl hb13 ?_
        refine sl_no rfl rfl rfl hb13 ?_
        refine sl_v rfl (r_pt rfl hb13 rfl) ?_
        refine sl_v rfl (r_mv rfl) ?_
        refine sl_no rfl rfl rfl rfl ?_
        refine sl_no rfl rfl rfl rfl ?_
        refine sl_v rfl (r_pt rfl rfl rfl) ?_
        refine sl_nil ?_
        refine cw_ct rfl rfl ?_
        refine cw_seq ?_
        refine cw_region ?_
        refine sl_v rfl (r_as rfl) ?_
        refine sl_nil ?_
        refine cw_ret ?_
        exact rs_1 (rt rfl) ⟨true, rfl, h⟩
      · replace h := h.2 (of_decide_eq_false hb13)
        refine sl_vg rfl rfl rfl hb13 (r_mv rfl) ?_
        refine sl_vg rfl rfl rfl hb13 (r_len_l (s := a2) rfl rfl Try.underlying58) ?_
        refine sl_vg rfl rfl rfl hb13 (r_gtr rfl rfl) ?_
        refine sl_v rfl (r_pf rfl hb13 rfl) ?_
        refine sl_v rfl (r_mv rfl) ?_
        refine bcases (decide ((100 : Int) < ((a2.n : Nat) : Int))) (fun hb14 => ?_) (fun hb14 => ?_)
        · replace h := h.1 (of_decide_eq_true hb14)
          refine sl_no rfl rfl rfl hb14 ?_
          refine sl_no rfl rfl rfl hb14 ?_
          refine sl_v rfl (r_pt rfl hb14 rfl) ?_
          refine sl_nil ?_
          refine cw_ct rfl rfl ?_
          refine cw_seq ?_
          refine cw_region ?_
          refine sl_v rfl (r_as rfl) ?_
          refine sl_nil ?_
          refine cw_ret ?_
          exact rs_1 (rt rfl) ⟨true, rfl, h⟩
        · replace h := h.2 (of_decide_eq_false hb14)
          refine sl_vg rfl rfl rfl hb14 (r_mv rfl) ?_
          refine sl_g rfl rfl rfl hb14 (ok_call c_ref07_Great rfl (Calls.mono h (fun e15 w16 hq17 => ?_)))
          clear h
          obtain ⟨r19, he18, h⟩ := hq17
          refine ⟨_, he18, ?_⟩
          replace hx : Ext w16 w16 := Chg.refl _
          refine sl_v rfl (r_pf rfl hb14 rfl) ?_
          refine sl_nil ?_
          refine bcases (r19) (fun hb20 => ?_) (fun hb20 => ?_)
          · replace h := h.1 hb20
            refine cw_ct rfl hb20 ?_
            refine cw_seq ?_
            refine cw_region ?_
            refine sl_v rfl (r_as rfl) ?_
            refine sl_nil ?_
            refine cw_ret ?_
            exact rs_1 (rt rfl) ⟨true, rfl, h⟩
          · replace h := h.2 hb20
            refine cw_cf rfl hb20 ?_
            refine cw_skip ?_
            refine cw_seq ?_
            refine cw_region ?_
            refine sl_v rfl (r_mv rfl) ?_
            refine sl_op rfl (ok_call c_apply_New rfl (Calls.mono h (fun e21 w22 hq23 => ?_)))
            clear h
            obtain ⟨r25_0, r25_1, he24, h⟩ := hq23
            refine ⟨_, he24, ?_⟩
            replace hx : Ext w22 w22 := Chg.refl _
            refine sl_v rfl (r_mv rfl) ?_
            refine sl_v rfl (r_ex rfl rfl) ?_
            refine sl_v rfl (r_ex rfl rfl) ?_
            refine sl_v rfl (r_as rfl) ?_
            refine sl_v rfl (r_as rfl) ?_
            refine sl_nil ?_
            refine cw_seq ?_
            refine cw_region ?_
            refine sl_v rfl (r_mv rfl) ?_
            refine sl_op rfl (ok_call c_ref18_Check rfl (Calls.mono h (fun e26 w27 hq28 => ?_)))
            clear h
            obtain ⟨r30_0, r30_1, he29, h⟩ := hq28
            refine ⟨_, he29, ?_⟩
            replace hx : Ext w27 w27 := Chg.refl _
            refine sl_v rfl (r_mv rfl) ?_
            refine sl_v rfl (r_ex rfl rfl) ?_
            refine sl_v rfl (r_ex rfl rfl) ?_
            refine sl_v rfl (r_as rfl) ?_
            refine sl_v rfl (r_as rfl) ?_
            refine sl_nil ?_
            refine cw_seq ?_
            refine cw_seq ?_
            refine cw_region ?_
            refine sl_v rfl (r_mv rfl) ?_
            refine sl_v rfl (r_mv rfl) ?_
            refine sl_v rfl (r_neq rfl rfl) ?_
            refine sl_v rfl (r_mv rfl) ?_
            refine bcases (decide (r25_1 ≠ r30_1)) (fun hb31 => ?_) (fun hb31 => ?_)
            · replace h := h.1 (of_decide_eq_true hb31)
              refine sl_no rfl rfl rfl hb31 ?_
              refine sl_no rfl rfl rfl hb31 ?_
              refine sl_no rfl rfl rfl hb31 ?_
              refine sl_no rfl rfl rfl hb31 ?_
              refine sl_no rfl rfl rfl hb31 ?_
              refine sl_v rfl (r_pt rfl hb31 rfl) ?_
              refine sl_nil ?_
              refine cw_ct rfl rfl ?_
              refine cw_seq ?_
              refine cw_region ?_
              refine sl_v rfl (r_as rfl) ?_
              refine sl_nil ?_
              refine cw_ret ?_
              exact rs_1 (rt rfl) ⟨false, rfl, h⟩
            · replace h := h.2 (of_decide_eq_false hb31)
              refine sl_vg rfl rfl rfl hb31 (r_mv rfl) ?_
              refine sl_vg rfl rfl rfl hb31 (p_eqn rfl rfl Try.underlying50) ?_
              refine sl_vg rfl rfl rfl hb31 (r_mv rfl) ?_
              refine sl_vg rfl rfl rfl hb31 (r_neq rfl rfl) ?_
              refine sl_vg rfl rfl rfl hb31 (b_neq rfl rfl Try.underlying4) ?_
              refine sl_v rfl (r_pf rfl hb31 rfl) ?_
              refine sl_nil ?_
              refine bcases (decide ((decide (r25_0 = none)) ≠ (decide (r30_1 ≠ (0 : Int))))) (fun hb32 => ?_) (fun hb32 => ?_)
              · replace h := h.1 (of_decide_eq_true hb32)
                refine cw_ct rfl hb32 ?_
                refine cw_seq ?_
                refine cw_region ?_
                refine sl_v rfl (r_as rfl) ?_
                refine sl_nil ?_
                refine cw_ret ?_
                exact rs_1 (rt rfl) ⟨false, rfl, h⟩
              · replace h := h.2 (of_decide_eq_false hb32)
                refine cw_cf rfl hb32 ?_
                refine cw_skip ?_
                refine cw_seq ?_
                refine cw_seq ?_
                refine cw_region ?_
                refine sl_v rfl (r_mv rfl) ?_
                refine sl_v rfl (r_neq rfl rfl) ?_
                refine sl_v rfl (r_mv rfl) ?_
                refine bcases (decide (r30_1 ≠ (0 : Int))) (fun hb33 => ?_) (fun hb33 => ?_)
                · replace h := h.1 (of_decide_eq_true hb33)
                  refine sl_no rfl rfl rfl hb33 ?_
                  refine sl_no rfl rfl rfl hb33 ?_
                  refine sl_v rfl (r_pt rfl hb33 rfl) ?_
                  refine sl_nil ?_
                  refine cw_ct rfl rfl ?_
                  refine cw_seq ?_
                  refine cw_region ?_
                  refine sl_v rfl (r_as rfl) ?_
                  refine sl_nil ?_
                  refine cw_ret ?_
                  exact rs_1 (rt rfl) ⟨true, rfl, h⟩
                · replace h := h.2 (of_decide_eq_false hb33)
                  refine sl_vg rfl rfl rfl hb33 (r_mv rfl) ?_
                  refine sl_vg rfl rfl rfl hb33 (p_eqn rfl rfl Try.underlying50) ?_
                  refine sl_v rfl (r_pf rfl hb33 rfl) ?_
                  refine sl_nil ?_
                  refine bcases (decide (r25_0 = none)) (fun hb34 => ?_) (fun hb34 => ?_)
                  · replace h := h.1 (of_decide_eq_true hb34)
                    refine cw_ct rfl hb34 ?_
                    refine cw_seq ?_
                    refine cw_region ?_
                    refine sl_v rfl (r_as rfl) ?_
                    refine sl_nil ?_
                    refine cw_ret ?_
                    exact rs_1 (rt rfl) ⟨true, rfl, h⟩
                  · replace h := h.2 (of_decide_eq_false hb34)
                    refine cw_cf rfl hb34 ?_
                    refine cw_skip ?_
                    refine cw_seq ?_
                    refine cw_region ?_
                    refine sl_v rfl (r_mv rfl) ?_
                    refine sl_v rfl (r_mv rfl) ?_
                    refine sl_op rfl (ok_call c_apply_Coder_Decode rfl (Calls.mono h (fun e35 w36 hq37 => ?_)))
                    clear h
                    obtain ⟨r39_0, r39_1, he38, h⟩ := hq37
                    refine ⟨_, he38, ?_⟩
                    replace hx : Ext w36 w36 := Chg.refl _
                    refine sl_v rfl (r_mv rfl) ?_
                    refine sl_v rfl (r_ex rfl rfl) ?_
                    refine sl_v rfl (r_ex rfl rfl) ?_
                    refine sl_v rfl (r_as rfl) ?_
                    refine sl_v rfl (r_as rfl) ?_
                    refine sl_nil ?_
                    refine cw_seq ?_
                    refine cw_region ?_
                    refine sl_v rfl (r_mv rfl) ?_
                    refine sl_v rfl (r_mv rfl) ?_
                    refine sl_op rfl (ok_call c_ref20_Decode rfl (Calls.mono h (fun e40 w41 hq42 => ?_)))
                    clear h
                    obtain ⟨r44_0, r44_1, he43, h⟩ := hq42
                    refine ⟨_, he43, ?_⟩
                    replace hx : Ext w41 w41 := Chg.refl _
                    refine sl_v rfl (r_mv rfl) ?_
                    refine sl_v rfl (r_ex rfl rfl) ?_
                    refine sl_v rfl (r_ex rfl rfl) ?_
                    refine sl_v rfl (r_as rfl) ?_
                    refine sl_v rfl (r_as rfl) ?_
                    refine sl_nil ?_
                    refine cw_seq ?_
                    refine cw_region ?_
                    refine sl_v rfl (r_mv rfl) ?_
                    refine sl_v rfl (r_mv rfl) ?_
                    refine sl_op rfl (ok_call c_apply_Coder_Count rfl (Calls.mono h (fun e45 w46 hq47 => ?_)))
                    clear h
                    obtain ⟨r49_0, r49_1, he48, h⟩ := hq47
                    refine ⟨_, he48, ?_⟩
                    replace hx : Ext w46 w46 := Chg.refl _
                    refine sl_v rfl (r_mv rfl) ?_
                    refine sl_v rfl (r_ex rfl rfl) ?_
                    refine sl_v rfl (r_ex rfl rfl) ?_
                    refine sl_v rfl (r_as rfl) ?_
                    refine sl_v rfl (r_as rfl) ?_
                    refine sl_nil ?_
                    refine cw_seq ?_
                    refine cw_region ?_
                    refine sl_v rfl (r_mv rfl) ?_
                    refine sl_v rfl (r_mv rfl) ?_
                    refine sl_op rfl (ok_call c_ref20_Count rfl (Calls.mono h (fun e50 w51 hq52 => ?_)))
                    clear h
                    obtain ⟨r54_0, r54_1, he53, h⟩ := hq52
                    refine ⟨_, he53, ?_⟩
                    replace hx : Ext w51 w51 := Chg.refl _
                    refine sl_v rfl (r_mv rfl) ?_
                    refine sl_v rfl (r_ex rfl rfl) ?_
                    refine sl_v rfl (r_ex rfl rfl) ?_
                    refine sl_v rfl (r_as rfl) ?_
                    refine sl_v rfl (r_as rfl) ?_
                    refine sl_nil ?_
                    refine cw_seq ?_
                    refine cw_region ?_
                    refine sl_v rfl (r_mv rfl) ?_
                    refine sl_v rfl (r_mv rfl) ?_
                    refine sl_op rfl (ok_call c_apply_Coder_Split rfl (Calls.mono h (fun e55 w56 hq57 => ?_)))
                    clear h
                    obtain ⟨r59, he58, h⟩ := hq57
                    refine ⟨_, he58, ?_⟩
                    replace hx : Ext w56 w56 := Chg.refl _
                    refine sl_v rfl (r_mv rfl) ?_
                    refine sl_v rfl (r_mv rfl) ?_
                    refine sl_op rfl (ok_call c_ref20_Split rfl (Calls.mono h (fun e60 w61 hq62 => ?_)))
                    clear h
                    obtain ⟨r64, he63, h⟩ := hq62
                    refine ⟨_, he63, ?_⟩
                    replace hx : Ext w61 w61 := Chg.refl _
                    refine sl_op rfl (ok_call c_ref01_Texts rfl (Calls.mono h (fun e65 w66 hq67 => ?_)))
                    clear h
                    obtain ⟨r69, he68, h⟩ := hq67
                    refine ⟨_, he68, ?_⟩
                    replace hx : Ext w66 w66 := Chg.refl _
                    refine sl_v rfl (r_mv rfl) ?_
                    refine bcases (r69) (fun hb70 => ?_) (fun hb70 => ?_)
                    · replace h := h.1 hb70
                      refine sl_vg rfl rfl rfl hb70 (r_mv rfl) ?_
                      refine sl_vg rfl rfl rfl hb70 (r_mv rfl) ?_
                      refine sl_g rfl rfl rfl hb70 (ok_call c_apply_Coder_Encode rfl (Calls.mono h (fun e71 w72 hq73 => ?_)))
                      clear h
                      obtain ⟨r75, he74, h⟩ := hq73
                      refine ⟨_, he74, ?_⟩
                      replace hx : Ext w72 w72 := Chg.refl _
                      refine sl_vg rfl rfl rfl hb70 (r_mv rfl) ?_
                      refine sl_vg rfl rfl rfl hb70 (r_mv rfl) ?_
                      refine sl_g rfl rfl rfl hb70 (ok_call c_ref20_Encode rfl (Calls.mono h (fun e76 w77 hq78 => ?_)))
                      clear h
                      obtain ⟨r80, he79, h⟩ := hq78
                      refine ⟨_, he79, ?_⟩
                      replace hx : Ext w77 w77 := Chg.refl _
                      refine sl_g rfl rfl rfl hb70 (ok_call c_ref01_Ints rfl (Calls.mono h (fun e81 w82 hq83 => ?_)))
                      clear h
                      obtain ⟨r85, he84, h⟩ := hq83
                      refine ⟨_, he84, ?_⟩
                      replace hx : Ext w82 w82 := Chg.refl _
                      refine sl_v rfl (r_pt rfl hb70 rfl) ?_
                      refine sl_v rfl (r_mv rfl) ?_
                      refine bcases (r85) (fun hb86 => ?_) (fun hb86 => ?_)
                      · replace h := h.1 hb86
                        refine sl_vg rfl rfl rfl hb86 (r_mv rfl) ?_
                        refine sl_vg rfl rfl rfl hb86 (r_mv rfl) ?_
                        refine sl_vg rfl rfl rfl hb86 (s_eql rfl rfl) ?_
                        refine sl_v rfl (r_pt rfl hb86 rfl) ?_
                        refine sl_v rfl (r_mv rfl) ?_
                        refine bcases (decide (r39_0 = r44_0)) (fun hb87 => ?_) (fun hb87 => ?_)
                        · replace h := h.1 (of_decide_eq_true hb87)
                          refine sl_vg rfl rfl rfl hb87 (r_mv rfl) ?_
                          refine sl_vg rfl rfl rfl hb87 (r_mv rfl) ?_
                          refine sl_vg rfl rfl rfl hb87 (b_eql rfl rfl Try.underlying4) ?_
                          refine sl_v rfl (r_pt rfl hb87 rfl) ?_
                          refine sl_v rfl (r_mv rfl) ?_
                          refine bcases (decide (r39_1 = r44_1)) (fun hb88 => ?_) (fun hb88 => ?_)
                          · replace h := h.1 (of_decide_eq_true hb88)
                            refine sl_vg rfl rfl rfl hb88 (r_mv rfl) ?_
                            refine sl_vg rfl rfl rfl hb88 (r_mv rfl) ?_
                            refine sl_vg rfl rfl rfl hb88 (r_eql rfl rfl) ?_
                            refine sl_v rfl (r_pt rfl hb88 rfl) ?_
                            refine sl_v rfl (r_mv rfl) ?_
                            refine bcases (decide (r49_0 = r54_0)) (fun hb89 => ?_) (fun hb89 => ?_)
                            · replace h := h.1 (of_decide_eq_true hb89)
                              refine sl_vg rfl rfl rfl hb89 (r_mv rfl) ?_
                              refine sl_vg rfl rfl rfl hb89 (r_mv rfl) ?_
                              refine sl_vg rfl rfl rfl hb89 (b_eql rfl rfl Try.underlying4) ?_
                              refine sl_v rfl (r_pt rfl hb89 rfl) ?_
                              refine sl_v rfl (r_mv rfl) ?_
                              refine bcases (decide (r49_1 = r54_1)) (fun hb90 => ?_) (fun hb90 => ?_)
                              · replace h := h.1 (of_decide_eq_true hb90)
                                refine sl_vg rfl rfl rfl hb90 (r_mv rfl) ?_
                                refine sl_g rfl rfl rfl hb90 (ok_call c_apply_Coder_Size rfl (Calls.mono h (fun e91 w92 hq93 => ?_)))
                                clear h
                                obtain ⟨r95, he94, h⟩ := hq93
                                refine ⟨_, he94, ?_⟩
                                replace hx : Ext w92 w92 := Chg.refl _
                                refine sl_vg rfl rfl rfl hb90 (r_mv rfl) ?_
                                refine sl_vg rfl rfl rfl hb90 (r_len_l (s := a0) rfl rfl Try.underlying22) ?_
                                obtain ⟨z96, hz96, h⟩ := h
                                refine sl_vg rfl rfl rfl hb90 (r_add rfl rfl hz96) ?_
                                refine sl_vg rfl rfl rfl hb90 (r_eql rfl rfl) ?_
                                refine sl_v rfl (r_pt rfl hb90 rfl) ?_
                                refine sl_v rfl (r_as rfl) ?_
                                refine sl_nil ?_
                                refine cw_ret ?_
                                exact rs_1 (rt rfl) ⟨decide (r95 = z96), rfl, h⟩
                              · replace h := h.2 (of_decide_eq_false hb90)
                                refine sl_no rfl rfl rfl hb90 ?_
                                refine sl_no rfl rfl rfl hb90 ?_
                                refine sl_no rfl rfl rfl hb90 ?_
                                refine sl_no rfl rfl rfl hb90 ?_
                                refine sl_no rfl rfl rfl hb90 ?_
                                refine sl_no rfl rfl rfl hb90 ?_
                                refine sl_v rfl (r_pf rfl hb90 rfl) ?_
                                refine sl_v rfl (r_as rfl) ?_
                                refine sl_nil ?_
                                refine cw_ret ?_
                                exact rs_1 (rt rfl) ⟨false, rfl, h⟩
                            · replace h := h.2 (of_decide_eq_false hb89)
                              refine sl_no rfl rfl rfl hb89 ?_
                              refine sl_no rfl rfl rfl hb89 ?_
                              refine sl_no rfl rfl rfl hb89 ?_
                              refine sl_v rfl (r_pf rfl hb89 rfl) ?_
                              refine sl_v rfl (r_mv rfl) ?_
                              refine sl_no rfl rfl rfl rfl ?_
                              refine sl_no rfl rfl rfl rfl ?_
                              refine sl_no rfl rfl rfl rfl ?_
                              refine sl_no rfl rfl rfl rfl ?_
                              refine sl_no rfl rfl rfl rfl ?_
                              refine sl_no rfl rfl rfl rfl ?_
                              refine sl_v rfl (r_pf rfl rfl rfl) ?_
                              refine sl_v rfl (r_as rfl) ?_
                              refine sl_nil ?_
                              refine cw_ret ?_
                              exact rs_1 (rt rfl) ⟨false, rfl, h⟩
                          · replace h := h.2 (of_decide_eq_false hb88)
                            refine sl_no rfl rfl rfl hb88 ?_
                            refine sl_no rfl rfl rfl hb88 ?_
                            refine sl_no rfl rfl rfl hb88 ?_
                            refine sl_v rfl (r_pf rfl hb88 rfl) ?_
                            refine sl_v rfl (r_mv rfl) ?_
                            refine sl_no rfl rfl rfl rfl ?_
                            refine sl_no rfl rfl rfl rfl ?_
                            refine sl_no rfl rfl rfl rfl ?_
                            refine sl_v rfl (r_pf rfl rfl rfl) ?_
                            refine sl_v rfl (r_mv rfl) ?_
                            refine sl_no rfl rfl rfl rfl ?_
                            refine sl_no rfl rfl rfl rfl ?_
                            refine sl_no rfl rfl rfl rfl ?_
                            refine sl_no rfl rfl rfl rfl ?_
                            refine sl_no rfl rfl rfl rfl ?_
                            refine sl_no rfl rfl rfl rfl ?_
                            refine sl_v rfl (r_pf rfl rfl rfl) ?_
                            refine sl_v rfl (r_as rfl) ?_
                            refine sl_nil ?_
                            refine cw_ret ?_
                            exact rs_1 (rt rfl) ⟨false, rfl, h⟩
                        · replace h := h.2 (of_decide_eq_false hb87)
                          refine sl_no rfl rfl rfl hb87 ?_
                          refine sl_no rfl rfl rfl hb87 ?_
                          refine sl_no rfl rfl rfl hb87 ?_
                          refine sl_v rfl (r_pf rfl hb87 rfl) ?_
                          refine sl_v rfl (r_mv rfl) ?_
                          refine sl_no rfl rfl rfl rfl ?_
                          refine sl_no rfl rfl rfl rfl ?_
                          refine sl_no rfl rfl rfl rfl ?_
                          refine sl_v rfl (r_pf rfl rfl rfl) ?_
                          refine sl_v rfl (r_mv rfl) ?_
                          refine sl_no rfl rfl rfl rfl ?_
                          refine sl_no rfl rfl rfl rfl ?_
                          refine sl_no rfl rfl rfl rfl ?_
                          refine sl_v rfl (r_pf rfl rfl rfl) ?_
                          refine sl_v rfl (r_mv rfl) ?_
                          refine sl_no rfl rfl rfl rfl ?_
                          refine sl_no rfl rfl rfl rfl ?_
                          refine sl_no rfl rfl rfl rfl ?_
                          refine sl_no rfl rfl rfl rfl ?_
                          refine sl_no rfl rfl rfl rfl ?_
                          refine sl_no rfl rfl rfl rfl ?_
                          refine sl_v rfl (r_pf rfl rfl rfl) ?_
                          refine sl_v rfl (r_as rfl) ?_
                          refine sl_nil ?_
                          refine cw_ret ?_
                          exact rs_1 (rt rfl) ⟨false, rfl, h⟩
                      · replace h := h.2 hb86
                        refine sl_no rfl rfl rfl hb86 ?_
                        refine sl_no rfl rfl rfl hb86 ?_
                        refine sl_no rfl rfl rfl hb86 ?_
                        refine sl_v rfl (r_pf rfl hb86 rfl) ?_
                        refine sl_v rfl (r_mv rfl) ?_
                        refine sl_no rfl rfl rfl rfl ?_
                        refine sl_no rfl rfl rfl rfl ?_
                        refine sl_no rfl rfl rfl rfl ?_
                        refine sl_v rfl (r_pf rfl rfl rfl) ?_
                        refine sl_v rfl (r_mv rfl) ?_
                        refine sl_no rfl rfl rfl rfl ?_
                        refine sl_no rfl rfl rfl rfl ?_
                        refine sl_no rfl rfl rfl rfl ?_
                        refine sl_v rfl (r_pf rfl rfl rfl) ?_
                        refine sl_v rfl (r_mv rfl) ?_
                        refine sl_no rfl rfl rfl rfl ?_
                        refine sl_no rfl rfl rfl rfl ?_
                        refine sl_no rfl rfl rfl rfl ?_
                        refine sl_v rfl (r_pf rfl rfl rfl) ?_
                        refine sl_v rfl (r_mv rfl) ?_
                        refine sl_no rfl rfl rfl rfl ?_
                        refine sl_no rfl rfl rfl rfl ?_
                        refine sl_no rfl rfl rfl rfl ?_
                        refine sl_no rfl rfl rfl rfl ?_
                        refine sl_no rfl rfl rfl rfl ?_
                        refine sl_no rfl rfl rfl rfl ?_
                        refine sl_v rfl (r_pf rfl rfl rfl) ?_
                        refine sl_v rfl (r_as rfl) ?_
                        refine sl_nil ?_
                        refine cw_ret ?_
                        exact rs_1 (rt rfl) ⟨false, rfl, h⟩
                    · replace h := h.2 hb70
                      refine sl_no rfl rfl rfl hb70 ?_
                      refine sl_no rfl rfl rfl hb70 ?_
                      refine sl_no rfl rfl rfl hb70 ?_
                      refine sl_no rfl rfl rfl hb70 ?_
                      refine sl_no rfl rfl rfl hb70 ?_
                      refine sl_no rfl rfl rfl hb70 ?_
                      refine sl_no rfl rfl rfl hb70 ?_
                      refine sl_v rfl (r_pf rfl hb70 rfl) ?_
                      refine sl_v rfl (r_mv rfl) ?_
                      refine sl_no rfl rfl rfl rfl ?_
                      refine sl_no rfl rfl rfl rfl ?_
                      refine sl_no rfl rfl rfl rfl ?_
                      refine sl_v rfl (r_pf rfl rfl rfl) ?_
                      refine sl_v rfl (r_mv rfl) ?_
                      refine sl_no rfl rfl rfl rfl ?_
                      refine sl_no rfl rfl rfl rfl ?_
                      refine sl_no rfl rfl rfl rfl ?_
                      refine sl_v rfl (r_pf rfl rfl rfl) ?_
                      refine sl_v rfl (r_mv rfl) ?_
                      refine sl_no rfl rfl rfl rfl ?_
                      refine sl_no rfl rfl rfl rfl ?_
                      refine sl_no rfl rfl rfl rfl ?_
                      refine sl_v rfl (r_pf rfl rfl rfl) ?_
                      refine sl_v rfl (r_mv rfl) ?_
                      refine sl_no rfl rfl rfl rfl ?_
                      refine sl_no rfl rfl rfl rfl ?_
                      refine sl_no rfl rfl rfl rfl ?_
                      refine sl_v rfl (r_pf rfl rfl rfl) ?_
                      refine sl_v rfl (r_mv rfl) ?_
                      refine sl_no rfl rfl rfl rfl ?_
                      refine sl_no rfl rfl rfl rfl ?_
                      refine sl_no rfl rfl rfl rfl ?_
                      refine sl_no rfl rfl rfl rfl ?_
                      refine sl_no rfl rfl rfl rfl ?_
                      refine sl_no rfl rfl rfl rfl ?_
                      refine sl_v rfl (r_pf rfl rfl rfl) ?_
                      refine sl_v rfl (r_as rfl) ?_
                      refine sl_nil ?_
                      refine cw_ret ?_
                      exact rs_1 (rt rfl) ⟨false, rfl, h⟩
  · replace h := h.2 hb6
    refine cw_ct rfl (nf hb6) ?_
    refine cw_seq ?_
    refine cw_region ?_
    refine sl_v rfl (r_as rfl) ?_
    refine sl_nil ?_
    refine cw_ret ?_
    exact rs_1 (rt rfl) ⟨false, rfl, h⟩

def VC_law20_ApplyBack (a0 : Sl) (a1 : ByteArray) (R : Bool → World → Prop) (w : World) : Prop :=
  Calls PP n_law20_awake #[] w (fun e w2 => ∃ r5 : Bool, e = .returned (.bool r5) ∧ ((r5 = true → (Calls PP n_ref18_Great #[a0.v, .int .i64 60] w2 (fun e w8 => ∃ r11 : Bool, e = .returned (.bool r11) ∧ ((r11 = true → (R true w8)) ∧ (r11 = false → (((200 : Int) < ((a1.size : Nat) : Int) → (R true w8)) ∧ (¬ ((200 : Int) < ((a1.size : Nat) : Int)) → (Calls PP n_apply_Coder_Decode #[.pointer none, .slice none 0 0] w8 (fun e w15 => ∃ r18_0 : ByteArray, ∃ r18_1 : Bool, e = .returned (.tuple #[.string r18_0, .bool r18_1]) ∧ (Calls PP n_apply_Coder_Count #[.pointer none, .slice none 0 0] w15 (fun e w20 => ∃ r23_0 : Int, ∃ r23_1 : Bool, e = .returned (.tuple #[.int .i64 r23_0, .bool r23_1]) ∧ (Calls PP n_apply_Coder_Split #[.pointer none, .string a1] w20 (fun e w25 => ∃ r28 : Sl, e = .returned (r28.v) ∧ ((((r28.n : Nat) : Int) ≠ (0 : Int) → (R false w25)) ∧ (¬ (((r28.n : Nat) : Int) ≠ (0 : Int)) → (Calls PP n_apply_Coder_Encode #[.pointer none, .string a1] w25 (fun e w31 => ∃ r34 : Sl, e = .returned (r34.v) ∧ ((((r34.n : Nat) : Int) ≠ (0 : Int) → (R false w31)) ∧ (¬ (((r34.n : Nat) : Int) ≠ (0 : Int)) → ((r18_0 ≠ (⟨#[]⟩ : ByteArray) → (R false w31)) ∧ (¬ (r18_0 ≠ (⟨#[]⟩ : ByteArray)) → ((r18_1 = true → (R false w31)) ∧ (r18_1 = false → (Calls PP n_apply_Coder_Size #[.pointer none] w31 (fun e w39 => ∃ r42 : Int, e = .returned (.int .i64 r42) ∧ ((r42 ≠ (0 : Int) → (R false w39)) ∧ (¬ (r42 ≠ (0 : Int)) → ((r23_0 ≠ (0 : Int) → (R false w39)) ∧ (¬ (r23_0 ≠ (0 : Int)) → ((r23_1 = true → (R false w39)) ∧ (r23_1 = false → (Calls PP n_apply_New #[a0.v] w39 (fun e w47 => ∃ r50_0 : Option Addr, ∃ r50_1 : Int, e = .returned (.tuple #[.pointer r50_0, .int .i64 r50_1]) ∧ (∃ K52 : Bool → World → Prop, (∀ (j51 : Bool) (w54 : World), K52 j51 w54 → ((j51 = true → ((r50_1 ≠ (0 : Int) → (R (decide (r50_0 = none)) w54)) ∧ (¬ (r50_1 ≠ (0 : Int)) → (R false w54)))) ∧ (j51 = false → (Calls PP n_apply_Coder_Encode #[.pointer r50_0, .string a1] w54 (fun e w61 => ∃ r64 : Sl, e = .returned (r64.v) ∧ (Calls PP n_apply_Coder_Decode #[.pointer r50_0, r64.v] w61 (fun e w66 => ∃ r69_0 : ByteArray, ∃ r69_1 : Bool, e = .returned (.tuple #[.string r69_0, .bool r69_1]) ∧ ((r69_1 = true → ((r69_0 = a1 → (R (decide (((r64.n : Nat) : Int) ≤ ((a1.size : Nat) : Int))) w66)) ∧ (¬ (r69_0 = a1) → (R false w66)))) ∧ (r69_1 = false → (R false w66)))))))))) ∧ ((r50_1 ≠ (0 : Int) → (K52 true w47)) ∧ (¬ (r50_1 ≠ (0 : Int)) → (K52 (decide (r50_0 = none)) w47))))))))))))))))))))))))))))))))))))) ∧ (r5 = false → (R false w2))))
set_option maxRecDepth 100000 in
theorem vc_law20_ApplyBack {a0 : Sl} {a1 : ByteArray} {R : Bool → World → Prop} {w : World} (h : VC_law20_ApplyBack a0 a1 R w) : Calls PP n_law20_ApplyBack #[a0.v, .string a1] w fun e w' => ∃ r0 : Bool, e = .returned (.bool r0) ∧ R r0 w' := by
  refine Calls.mono (calls_of_cw (n := 104) (rs := #[.tmp 4]) (args := [a0.v, .string a1]) (R := fun v w' => ∃ r0 : Bool, v = .bool r0 ∧ R r0 w') Try.func7 rfl rfl (Nat.le_of_ble_eq_true rfl) rfl ?_) ?_
  case refine_2 => rintro e w' ⟨v, rfl, hr⟩; obtain ⟨r0, rfl, hr⟩ := hr; exact ⟨r0, rfl, hr⟩
  have hx : Ext w w := Chg.refl _
  unfold VC_law20_ApplyBack at h
  refine cw_seq ?_
  refine cw_region ?_
  refine sl_v rfl (r_as rfl) ?_
  refine sl_nil ?_
  refine cw_seq ?_
  refine cw_seq ?_
  refine cw_region ?_
  refine sl_op rfl (ok_call c_law20_awake rfl (Calls.mono h (fun e1 w2 hq3 => ?_)))
  clear h
  obtain ⟨r5, he4, h⟩ := hq3
  refine ⟨_, he4, ?_⟩
  replace hx : Ext w2 w2 := Chg.refl _
  refine sl_v rfl (r_not rfl) ?_
  refine sl_nil ?_
  refine bcases (r5) (fun hb6 => ?_) (fun hb6 => ?_)
  · replace h := h.1 hb6
    refine cw_cf rfl (nt hb6) ?_
    refine cw_skip ?_
    refine cw_seq ?_
    refine cw_seq ?_
    refine cw_region ?_
    refine sl_v rfl (r_mv rfl) ?_
    refine sl_op rfl (ok_call c_ref18_Great rfl (Calls.mono h (fun e7 w8 hq9 => ?_)))
    clear h
    obtain ⟨r11, he10, h⟩ := hq9
    refine ⟨_, he10, ?_⟩
    replace hx : Ext w8 w8 := Chg.refl _
    refine sl_v rfl (r_mv rfl) ?_
    refine bcases (r11) (fun hb12 => ?_) (fun hb12 => ?_)
    · replace h := h.1 hb12
      refine sl_no rfl rfl rfl hb12 ?_
      refine sl_no rfl rfl rfl hb12 ?_
      refine sl_no rfl rfl rfl hb12 ?_
      refine sl_v rfl (r_pt rfl hb12 rfl) ?_
      refine sl_nil ?_
      refine cw_ct rfl rfl ?_
      refine cw_seq ?_
      refine cw_region ?_
      refine sl_v rfl (r_as rfl) ?_
      refine sl_nil ?_
      refine cw_ret ?_
      exact rs_1 (rt rfl) ⟨true, rfl, h⟩
    · replace h := h.2 hb12
      refine sl_vg rfl rfl rfl hb12 (r_mv rfl) ?_
      refine sl_vg rfl rfl rfl hb12 (r_len_s rfl rfl Try.underlying9) ?_
      refine sl_vg rfl rfl rfl hb12 (r_gtr rfl rfl) ?_
      refine sl_v rfl (r_pf rfl hb12 rfl) ?_
      refine sl_nil ?_
      refine bcases (decide ((200 : Int) < ((a1.size : Nat) : Int))) (fun hb13 => ?_) (fun hb13 => ?_)
      · replace h := h.1 (of_decide_eq_true hb13)
        refine cw_ct rfl hb13 ?_
        refine cw_seq ?_
        refine cw_region ?_
        refine sl_v rfl (r_as rfl) ?_
        refine sl_nil ?_
        refine cw_ret ?_
        exact rs_1 (rt rfl) ⟨true, rfl, h⟩
      · replace h := h.2 (of_decide_eq_false hb13)
        refine cw_cf rfl hb13 ?_
        refine cw_skip ?_
        refine cw_seq ?_
        refine cw_region ?_
        refine sl_v rfl (r_as rfl) ?_
        refine sl_nil ?_
        refine cw_seq ?_
        refine cw_region ?_
        refine sl_v rfl (r_mv rfl) ?_
        refine sl_op rfl (ok_call c_apply_Coder_Decode rfl (Calls.mono h (fun e14 w15 hq16 => ?_)))
        clear h
        obtain ⟨r18_0, r18_1, he17, h⟩ := hq16
        refine ⟨_, he17, ?_⟩
        replace hx : Ext w15 w15 := Chg.refl _
        refine sl_v rfl (r_mv rfl) ?_
        refine sl_v rfl (r_ex rfl rfl) ?_
        refine sl_v rfl (r_ex rfl rfl) ?_
        refine sl_v rfl (r_as rfl) ?_
        refine sl_v rfl (r_as rfl) ?_
        refine sl_nil ?_
        refine cw_seq ?_
        refine cw_region ?_
        refine sl_v rfl (r_mv rfl) ?_
        refine sl_op rfl (ok_call c_apply_Coder_Count rfl (Calls.mono h (fun e19 w20 hq21 => ?_)))
        clear h
        obtain ⟨r23_0, r23_1, he22, h⟩ := hq21
        refine ⟨_, he22, ?_⟩
        replace hx : Ext w20 w20 := Chg.refl _
        refine sl_v rfl (r_mv rfl) ?_
        refine sl_v rfl (r_ex rfl rfl) ?_
        refine sl_v rfl (r_ex rfl rfl) ?_
        refine sl_v rfl (r_as rfl) ?_
        refine sl_v rfl (r_as rfl) ?_
        refine sl_nil ?_
        refine cw_seq ?_
        refine cw_seq ?_
        refine cw_region ?_
        refine sl_v rfl (r_mv rfl) ?_
        refine sl_v rfl (r_mv rfl) ?_
        refine sl_op rfl (ok_call c_apply_Coder_Split rfl (Calls.mono h (fun e24 w25 hq26 => ?_)))
        clear h
        obtain ⟨r28, he27, h⟩ := hq26
        refine ⟨_, he27, ?_⟩
        replace hx : Ext w25 w25 := Chg.refl _
        refine sl_v rfl (r_len_l (s := r28) rfl rfl Try.underlying37) ?_
        refine sl_v rfl (r_neq rfl rfl) ?_
        refine sl_v rfl (r_mv rfl) ?_
        refine bcases (decide (((r28.n : Nat) : Int) ≠ (0 : Int))) (fun hb29 => ?_) (fun hb29 => ?_)
        · replace h := h.1 (of_decide_eq_true hb29)
          refine sl_no rfl rfl rfl hb29 ?_
          refine sl_no rfl rfl rfl hb29 ?_
          refine sl_no rfl rfl rfl hb29 ?_
          refine sl_no rfl rfl rfl hb29 ?_
          refine sl_no rfl rfl rfl hb29 ?_
          refine sl_v rfl (r_pt rfl hb29 rfl) ?_
          refine sl_v rfl (r_mv rfl) ?_
          refine sl_no rfl rfl rfl rfl ?_
          refine sl_no rfl rfl rfl rfl ?_
          refine sl_v rfl (r_pt rfl rfl rfl) ?_
          refine sl_v rfl (r_mv rfl) ?_
          refine sl_no rfl rfl rfl rfl ?_
          refine sl_v rfl (r_pt rfl rfl rfl) ?_
          refine sl_v rfl (r_mv rfl) ?_
          refine sl_no rfl rfl rfl rfl ?_
          refine sl_no rfl rfl rfl rfl ?_
          refine sl_no rfl rfl rfl rfl ?_
          refine sl_v rfl (r_pt rfl rfl rfl) ?_
          refine sl_v rfl (r_mv rfl) ?_
          refine sl_no rfl rfl rfl rfl ?_
          refine sl_no rfl rfl rfl rfl ?_
          refine sl_v rfl (r_pt rfl rfl rfl) ?_
          refine sl_v rfl (r_mv rfl) ?_
          refine sl_no rfl rfl rfl rfl ?_
          refine sl_v rfl (r_pt rfl rfl rfl) ?_
          refine sl_nil ?_
          refine cw_ct rfl rfl ?_
          refine cw_seq ?_
          refine cw_region ?_
          refine sl_v rfl (r_as rfl) ?_
          refine sl_nil ?_
          refine cw_ret ?_
          exact rs_1 (rt rfl) ⟨false, rfl, h⟩
        · replace h := h.2 (of_decide_eq_false hb29)
          refine sl_vg rfl rfl rfl hb29 (r_mv rfl) ?_
          refine sl_vg rfl rfl rfl hb29 (r_mv rfl) ?_
          refine sl_g rfl rfl rfl hb29 (ok_call c_apply_Coder_Encode rfl (Calls.mono h (fun e30 w31 hq32 => ?_)))
          clear h
          obtain ⟨r34, he33, h⟩ := hq32
          refine ⟨_, he33, ?_⟩
          replace hx : Ext w31 w31 := Chg.refl _
          refine sl_vg rfl rfl rfl hb29 (r_len_l (s := r34) rfl rfl Try.underlying58) ?_
          refine sl_vg rfl rfl rfl hb29 (r_neq rfl rfl) ?_
          refine sl_v rfl (r_pf rfl hb29 rfl) ?_
          refine sl_v rfl (r_mv rfl) ?_
          refine bcases (decide (((r34.n : Nat) : Int) ≠ (0 : Int))) (fun hb35 => ?_) (fun hb35 => ?_)
          · replace h := h.1 (of_decide_eq_true hb35)
            refine sl_no rfl rfl rfl hb35 ?_
            refine sl_no rfl rfl rfl hb35 ?_
            refine sl_v rfl (r_pt rfl hb35 rfl) ?_
            refine sl_v rfl (r_mv rfl) ?_
            refine sl_no rfl rfl rfl rfl ?_
            refine sl_v rfl (r_pt rfl rfl rfl) ?_
            refine sl_v rfl (r_mv rfl) ?_
            refine sl_no rfl rfl rfl rfl ?_
            refine sl_no rfl rfl rfl rfl ?_
            refine sl_no rfl rfl rfl rfl ?_
            refine sl_v rfl (r_pt rfl rfl rfl) ?_
            refine sl_v rfl (r_mv rfl) ?_
            refine sl_no rfl rfl rfl rfl ?_
            refine sl_no rfl rfl rfl rfl ?_
            refine sl_v rfl (r_pt rfl rfl rfl) ?_
            refine sl_v rfl (r_mv rfl) ?_
            refine sl_no rfl rfl rfl rfl ?_
            refine sl_v rfl (r_pt rfl rfl rfl) ?_
            refine sl_nil ?_
            refine cw_ct rfl rfl ?_
            refine cw_seq ?_
            refine cw_region ?_
            refine sl_v rfl (r_as rfl) ?_
            refine sl_nil ?_
            refine cw_ret ?_
            exact rs_1 (rt rfl) ⟨false, rfl, h⟩
          · replace h := h.2 (of_decide_eq_false hb35)
            refine sl_vg rfl rfl rfl hb35 (r_mv rfl) ?_
            refine sl_vg rfl rfl rfl hb35 (s_neq rfl rfl) ?_
            refine sl_v rfl (r_pf rfl hb35 rfl) ?_
            refine sl_v rfl (r_mv rfl) ?_
            refine bcases (decide (r18_0 ≠ (⟨#[]⟩ : ByteArray))) (fun hb36 => ?_) (fun hb36 => ?_)
            · replace h := h.1 (of_decide_eq_true hb36)
              refine sl_no rfl rfl rfl hb36 ?_
              refine sl_v rfl (r_pt rfl hb36 rfl) ?_
              refine sl_v rfl (r_mv rfl) ?_
              refine sl_no rfl rfl rfl rfl ?_
              refine sl_no rfl rfl rfl rfl ?_
              refine sl_no rfl rfl rfl rfl ?_
              refine sl_v rfl (r_pt rfl rfl rfl) ?_
              refine sl_v rfl (r_mv rfl) ?_
              refine sl_no rfl rfl rfl rfl ?_
              refine sl_no rfl rfl rfl rfl ?_
              refine sl_v rfl (r_pt rfl rfl rfl) ?_
              refine sl_v rfl (r_mv rfl) ?_
              refine sl_no rfl rfl rfl rfl ?_
              refine sl_v rfl (r_pt rfl rfl rfl) ?_
              refine sl_nil ?_
              refine cw_ct rfl rfl ?_
              refine cw_seq ?_
              refine cw_region ?_
              refine sl_v rfl (r_as rfl) ?_
              refine sl_nil ?_
              refine cw_ret ?_
              exact rs_1 (rt rfl) ⟨false, rfl, h⟩
            · replace h := h.2 (of_decide_eq_false hb36)
              refine sl_vg rfl rfl rfl hb36 (r_mv rfl) ?_
              refine sl_v rfl (r_pf rfl hb36 rfl) ?_
              refine sl_v rfl (r_mv rfl) ?_
              refine bcases (r18_1) (fun hb37 => ?_) (fun hb37 => ?_)
              · replace h := h.1 hb37
                refine sl_no rfl rfl rfl hb37 ?_
                refine sl_no rfl rfl rfl hb37 ?_
                refine sl_no rfl rfl rfl hb37 ?_
                refine sl_v rfl (r_pt rfl hb37 rfl) ?_
                refine sl_v rfl (r_mv rfl) ?_
                refine sl_no rfl rfl rfl rfl ?_
                refine sl_no rfl rfl rfl rfl ?_
                refine sl_v rfl (r_pt rfl rfl rfl) ?_
                refine sl_v rfl (r_mv rfl) ?_
                refine sl_no rfl rfl rfl rfl ?_
                refine sl_v rfl (r_pt rfl rfl rfl) ?_
                refine sl_nil ?_
                refine cw_ct rfl rfl ?_
                refine cw_seq ?_
                refine cw_region ?_
                refine sl_v rfl (r_as rfl) ?_
                refine sl_nil ?_
                refine cw_ret ?_
                exact rs_1 (rt rfl) ⟨false, rfl, h⟩
              · replace h := h.2 hb37
                refine sl_vg rfl rfl rfl hb37 (r_mv rfl) ?_
                refine sl_g rfl rfl rfl hb37 (ok_call c_apply_Coder_Size rfl (Calls.mono h (fun e38 w39 hq40 => ?_)))
                clear h
                obtain ⟨r42, he41, h⟩ := hq40
                refine ⟨_, he41, ?_⟩
                replace hx : Ext w39 w39 := Chg.refl _
                refine sl_vg rfl rfl rfl hb37 (r_neq rfl rfl) ?_
                refine sl_v rfl (r_pf rfl hb37 rfl) ?_
                refine sl_v rfl (r_mv rfl) ?_
                refine bcases (decide (r42 ≠ (0 : Int))) (fun hb43 => ?_) (fun hb43 => ?_)
                · replace h := h.1 (of_decide_eq_true hb43)
                  refine sl_no rfl rfl rfl hb43 ?_
                  refine sl_no rfl rfl rfl hb43 ?_
                  refine sl_v rfl (r_pt rfl hb43 rfl) ?_
                  refine sl_v rfl (r_mv rfl) ?_
                  refine sl_no rfl rfl rfl rfl ?_
                  refine sl_v rfl (r_pt rfl rfl rfl) ?_
                  refine sl_nil ?_
                  refine cw_ct rfl rfl ?_
                  refine cw_seq ?_
                  refine cw_region ?_
                  refine sl_v rfl (r_as rfl) ?_
                  refine sl_nil ?_
                  refine cw_ret ?_
                  exact rs_1 (rt rfl) ⟨false, rfl, h⟩
                · replace h := h.2 (of_decide_eq_false hb43)
                  refine sl_vg rfl rfl rfl hb43 (r_mv rfl) ?_
                  refine sl_vg rfl rfl rfl hb43 (r_neq rfl rfl) ?_
                  refine sl_v rfl (r_pf rfl hb43 rfl) ?_
                  refine sl_v rfl (r_mv rfl) ?_
                  refine bcases (decide (r23_0 ≠ (0 : Int))) (fun hb44 => ?_) (fun hb44 => ?_)
                  · replace h := h.1 (of_decide_eq_true hb44)
                    refine sl_no rfl rfl rfl hb44 ?_
                    refine sl_v rfl (r_pt rfl hb44 rfl) ?_
                    refine sl_nil ?_
                    refine cw_ct rfl rfl ?_
                    refine cw_seq ?_
                    refine cw_region ?_
                    refine sl_v rfl (r_as rfl) ?_
                    refine sl_nil ?_
                    refine cw_ret ?_
                    exact rs_1 (rt rfl) ⟨false, rfl, h⟩
                  · replace h := h.2 (of_decide_eq_false hb44)
                    refine sl_vg rfl rfl rfl hb44 (r_mv rfl) ?_
                    refine sl_v rfl (r_pf rfl hb44 rfl) ?_
                    refine sl_nil ?_
                    refine bcases (r23_1) (fun hb45 => ?_) (fun hb45 => ?_)
                    · replace h := h.1 hb45
                      refine cw_ct rfl hb45 ?_
                      refine cw_seq ?_
                      refine cw_region ?_
                      refine sl_v rfl (r_as rfl) ?_
                      refine sl_nil ?_
                      refine cw_ret ?_
                      exact rs_1 (rt rfl) ⟨false, rfl, h⟩
                    · replace h := h.2 hb45
                      refine cw_cf rfl hb45 ?_
                      refine cw_skip ?_
                      refine cw_seq ?_
                      refine cw_region ?_
                      refine sl_v rfl (r_mv rfl) ?_
                      refine sl_op rfl (ok_call c_apply_New rfl (Calls.mono h (fun e46 w47 hq48 => ?_)))
                      clear h
                      obtain ⟨r50_0, r50_1, he49, h⟩ := hq48
                      refine ⟨_, he49, ?_⟩
                      replace hx : Ext w47 w47 := Chg.refl _
                      refine sl_v rfl (r_mv rfl) ?_
                      refine sl_v rfl (r_ex rfl rfl) ?_
                      refine sl_v rfl (r_ex rfl rfl) ?_
                      refine sl_v rfl (r_as rfl) ?_
                      refine sl_v rfl (r_as rfl) ?_
                      refine sl_nil ?_
                      refine cw_seq ?_
                      obtain ⟨K52, hK53, h⟩ := h
                      refine cw_mid (fun f w => ∃ (g : Env) (j51 : Bool), f = (upd (upd (upd (upd (nm g []) 1 (.string a1)) 10 (.pointer r50_0)) 11 (.int .i64 r50_1)) 75 (.bool j51)) ∧ K52 j51 w) ?_ (fun _ w54 hM56 => ?_)
                      ·
                        refine cw_region ?_
                        refine sl_v rfl (r_mv rfl) ?_
                        refine sl_v rfl (r_neq rfl rfl) ?_
                        refine sl_v rfl (r_mv rfl) ?_
                        refine bcases (decide (r50_1 ≠ (0 : Int))) (fun hb57 => ?_) (fun hb57 => ?_)
                        · replace h := h.1 (of_decide_eq_true hb57)
                          refine sl_no rfl rfl rfl hb57 ?_
                          refine sl_no rfl rfl rfl hb57 ?_
                          refine sl_v rfl (r_pt rfl hb57 rfl) ?_
                          refine sl_nil ?_
                          exact ⟨_, true, (kp (kp (kp (kp (kn rfl) rfl) rfl) rfl) rfl), h⟩
                        · replace h := h.2 (of_decide_eq_false hb57)
                          refine sl_vg rfl rfl rfl hb57 (r_mv rfl) ?_
                          refine sl_vg rfl rfl rfl hb57 (p_eqn rfl rfl Try.underlying50) ?_
                          refine sl_v rfl (r_pf rfl hb57 rfl) ?_
                          refine sl_nil ?_
                          exact ⟨_, decide (r50_0 = none), (kp (kp (kp (kp (kn rfl) rfl) rfl) rfl) rfl), h⟩
                      ·
                        obtain ⟨g55, j51, rfl, hM56⟩ := hM56
                        replace h := hK53 j51 w54 hM56
                        have hx : Ext w54 w54 := Chg.refl _
                        refine bcases (j51) (fun hb58 => ?_) (fun hb58 => ?_)
                        · replace h := h.1 hb58
                          refine cw_ct rfl hb58 ?_
                          refine cw_seq ?_
                          refine cw_region ?_
                          refine sl_v rfl (r_mv rfl) ?_
                          refine sl_v rfl (r_neq rfl rfl) ?_
                          refine sl_v rfl (r_mv rfl) ?_
                          refine bcases (decide (r50_1 ≠ (0 : Int))) (fun hb59 => ?_) (fun hb59 => ?_)
                          · replace h := h.1 (of_decide_eq_true hb59)
                            refine sl_vg rfl rfl rfl hb59 (r_mv rfl) ?_
                            refine sl_vg rfl rfl rfl hb59 (p_eqn rfl rfl Try.underlying50) ?_
                            refine sl_v rfl (r_pt rfl hb59 rfl) ?_
                            refine sl_v rfl (r_as rfl) ?_
                            refine sl_nil ?_
                            refine cw_ret ?_
                            exact rs_1 (rt rfl) ⟨decide (r50_0 = none), rfl, h⟩
                          · replace h := h.2 (of_decide_eq_false hb59)
                            refine sl_no rfl rfl rfl hb59 ?_
                            refine sl_no rfl rfl rfl hb59 ?_
                            refine sl_v rfl (r_pf rfl hb59 rfl) ?_
                            refine sl_v rfl (r_as rfl) ?_
                            refine sl_nil ?_
                            refine cw_ret ?_
                            exact rs_1 (rt rfl) ⟨false, rfl, h⟩
                        · replace h := h.2 hb58
                          refine cw_cf rfl hb58 ?_
                          refine cw_skip ?_
                          refine cw_seq ?_
                          refine cw_region ?_
                          refine sl_v rfl (r_mv rfl) ?_
                          refine sl_v rfl (r_mv rfl) ?_
                          refine sl_op rfl (ok_call c_apply_Coder_Encode rfl (Calls.mono h (fun e60 w61 hq62 => ?_)))
                          clear h
                          obtain ⟨r64, he63, h⟩ := hq62
                          refine ⟨_, he63, ?_⟩
                          replace hx : Ext w61 w61 := Chg.refl _
                          refine sl_v rfl (r_as rfl) ?_
                          refine sl_nil ?_
                          refine cw_seq ?_
                          refine cw_region ?_
                          refine sl_v rfl (r_mv rfl) ?_
                          refine sl_v rfl (r_mv rfl) ?_
                          refine sl_op rfl (ok_call c_apply_Coder_Decode rfl (Calls.mono h (fun e65 w66 hq67 => ?_)))
                          clear h
                          obtain ⟨r69_0, r69_1, he68, h⟩ := hq67
                          refine ⟨_, he68, ?_⟩
                          replace hx : Ext w66 w66 := Chg.refl _
                          refine sl_v rfl (r_mv rfl) ?_
                          refine sl_v rfl (r_ex rfl rfl) ?_
                          refine sl_v rfl (r_ex rfl rfl) ?_
                          refine sl_v rfl (r_as rfl) ?_
                          refine sl_v rfl (r_as rfl) ?_
                          refine sl_nil ?_
                          refine cw_seq ?_
                          refine cw_region ?_
                          refine sl_v rfl (r_mv rfl) ?_
                          refine sl_v rfl (r_mv rfl) ?_
                          refine bcases (r69_1) (fun hb70 => ?_) (fun hb70 => ?_)
                          · replace h := h.1 hb70
                            refine sl_vg rfl rfl rfl hb70 (r_mv rfl) ?_
                            refine sl_vg rfl rfl rfl hb70 (r_mv rfl) ?_
                            refine sl_vg rfl rfl rfl hb70 (s_eql rfl rfl) ?_
                            refine sl_v rfl (r_pt rfl hb70 rfl) ?_
                            refine sl_v rfl (r_mv rfl) ?_
                            refine bcases (decide (r69_0 = a1)) (fun hb71 => ?_) (fun hb71 => ?_)
                            · replace h := h.1 (of_decide_eq_true hb71)
                              refine sl_vg rfl rfl rfl hb71 (r_mv rfl) ?_
                              refine sl_vg rfl rfl rfl hb71 (r_len_l (s := r64) rfl rfl Try.underlying58) ?_
                              refine sl_vg rfl rfl rfl hb71 (r_mv rfl) ?_
                              refine sl_vg rfl rfl rfl hb71 (r_len_s rfl rfl Try.underlying9) ?_
                              refine sl_vg rfl rfl rfl hb71 (r_leq rfl rfl) ?_
                              refine sl_v rfl (r_pt rfl hb71 rfl) ?_
                              refine sl_v rfl (r_as rfl) ?_
                              refine sl_nil ?_
                              refine cw_ret ?_
                              exact rs_1 (rt rfl) ⟨decide (((r64.n : Nat) : Int) ≤ ((a1.size : Nat) : Int)), rfl, h⟩
                            · replace h := h.2 (of_decide_eq_false hb71)
                              refine sl_no rfl rfl rfl hb71 ?_
                              refine sl_no rfl rfl rfl hb71 ?_
                              refine sl_no rfl rfl rfl hb71 ?_
                              refine sl_no rfl rfl rfl hb71 ?_
                              refine sl_no rfl rfl rfl hb71 ?_
                              refine sl_v rfl (r_pf rfl hb71 rfl) ?_
                              refine sl_v rfl (r_as rfl) ?_
                              refine sl_nil ?_
                              refine cw_ret ?_
                              exact rs_1 (rt rfl) ⟨false, rfl, h⟩
                          · replace h := h.2 hb70
                            refine sl_no rfl rfl rfl hb70 ?_
                            refine sl_no rfl rfl rfl hb70 ?_
                            refine sl_no rfl rfl rfl hb70 ?_
                            refine sl_v rfl (r_pf rfl hb70 rfl) ?_
                            refine sl_v rfl (r_mv rfl) ?_
                            refine sl_no rfl rfl rfl rfl ?_
                            refine sl_no rfl rfl rfl rfl ?_
                            refine sl_no rfl rfl rfl rfl ?_
                            refine sl_no rfl rfl rfl rfl ?_
                            refine sl_no rfl rfl rfl rfl ?_
                            refine sl_v rfl (r_pf rfl rfl rfl) ?_
                            refine sl_v rfl (r_as rfl) ?_
                            refine sl_nil ?_
                            refine cw_ret ?_
                            exact rs_1 (rt rfl) ⟨false, rfl, h⟩
  · replace h := h.2 hb6
    refine cw_ct rfl (nf hb6) ?_
    refine cw_seq ?_
    refine cw_region ?_
    refine sl_v rfl (r_as rfl) ?_
    refine sl_nil ?_
    refine cw_ret ?_
    exact rs_1 (rt rfl) ⟨false, rfl, h⟩

def VC_ref18_Great (a0 : Sl) (a1 : Int) (R : Bool → World → Prop) (w : World) : Prop :=
  ∃ (I2 : Int → World → Prop) (μ3 : Int → World → Nat), I2 0 w ∧ ∀ (l1 : Int) (w5 : World), I2 l1 w5 → ((l1 < ((a0.n : Nat) : Int) → (∃ k9 : Nat, l1 = ((k9 : Nat) : Int) ∧ k9 < a0.n ∧ (∃ (b11 o12 : Nat), a0.b = some ⟨b11, o12, none⟩ ∧ (∃ v14 : ByteArray, w5.cell? ⟨b11, o12 + k9 * 2, none⟩ = some (.string v14) ∧ (((300 : Int) < ((v14.size : Nat) : Int) → (R true w5)) ∧ (¬ ((300 : Int) < ((v14.size : Nat) : Int)) → (∃ v17 : ByteArray, w5.cell? ⟨b11, o12 + k9 * 2 + 1, none⟩ = some (.string v17) ∧ (((300 : Int) < ((v17.size : Nat) : Int) → (R true w5)) ∧ (¬ ((300 : Int) < ((v17.size : Nat) : Int)) → (∃ z20 : Int, z20 = IntKind.wrap .i64 (((k9 : Nat) : Int) + 1) ∧ (I2 z20 w5 ∧ μ3 z20 w5 < μ3 l1 w5))))))))))) ∧ (¬ (l1 < ((a0.n : Nat) : Int)) → (R (decide (a1 < ((a0.n : Nat) : Int))) w5)))
set_option maxRecDepth 100000 in
theorem vc_ref18_Great {a0 : Sl} {a1 : Int} {R : Bool → World → Prop} {w : World} (h : VC_ref18_Great a0 a1 R w) : Calls PP n_ref18_Great #[a0.v, .int .i64 a1] w fun e w' => ∃ r0 : Bool, e = .returned (.bool r0) ∧ R r0 w' := by
  refine Calls.mono (calls_of_cw (n := 32) (rs := #[.tmp 4]) (args := [a0.v, .int .i64 a1]) (R := fun v w' => ∃ r0 : Bool, v = .bool r0 ∧ R r0 w') Try.func9 rfl rfl (Nat.le_of_ble_eq_true rfl) rfl ?_) ?_
  case refine_2 => rintro e w' ⟨v, rfl, hr⟩; obtain ⟨r0, rfl, hr⟩ := hr; exact ⟨r0, rfl, hr⟩
  have hx : Ext w w := Chg.refl _
  unfold VC_ref18_Great at h
  refine cw_seq ?_
  refine cw_region ?_
  refine sl_v rfl (r_as rfl) ?_
  refine sl_nil ?_
  refine cw_seq ?_
  refine cw_seq ?_
  refine cw_region ?_
  refine sl_v rfl (r_as rfl) ?_
  refine sl_nil ?_
  refine cw_block ?_
  obtain ⟨I2, μ3, hI4, h⟩ := h
  refine cw_loop (σ := Int) (fun s g => (upd (upd (upd (nm g []) 0 (a0.v)) 1 (.int .i64 a1)) 5 (.int .i64 s))) (fun s w => I2 s w) (fun s w => μ3 s w) (0) _ (kp (kp (kp (kn rfl) rfl) rfl) rfl) hI4 ?_
  rintro l1 g6 w5 hi7
  replace h := h l1 w5 hi7
  have hx : Ext w5 w5 := Chg.refl _
  change CW _ PP _ _ _ (upd (upd (upd (nm g6 []) 0 (a0.v)) 1 (.int .i64 a1)) 5 (.int .i64 l1)) _
  refine cw_seq ?_
  refine cw_seq ?_
  refine cw_region ?_
  refine sl_v rfl (r_mv rfl) ?_
  refine sl_v rfl (r_mv rfl) ?_
  refine sl_v rfl (r_len_l (s := a0) rfl rfl Try.underlying22) ?_
  refine sl_v rfl (r_lss rfl rfl) ?_
  refine sl_nil ?_
  refine bcases (decide (l1 < ((a0.n : Nat) : Int))) (fun hb8 => ?_) (fun hb8 => ?_)
  · replace h := h.1 (of_decide_eq_true hb8)
    refine cw_ct rfl hb8 ?_
    refine cw_skip ?_
    refine cw_seq ?_
    refine cw_block ?_
    refine cw_seq ?_
    refine cw_region ?_
    refine sl_v rfl (r_mv rfl) ?_
    refine sl_v rfl (r_mv rfl) ?_
    obtain ⟨k9, rfl, hk10, h⟩ := h
    obtain ⟨b11, o12, hb13, h⟩ := h
    refine sl_v rfl (ia_sl_api_Merge (s := a0) (j := k9) (o' := o12 + k9 * 2) rfl rfl hk10 hb13 rfl) ?_
    refine sl_v rfl (fa_api_Merge_0 (o' := o12 + k9 * 2) rfl rfl) ?_
    obtain ⟨v14, hc15, h⟩ := h
    refine sl_v rfl (ld_string rfl hc15) ?_
    refine sl_v rfl (r_len_s rfl rfl Try.underlying9) ?_
    refine sl_v rfl (r_gtr rfl rfl) ?_
    refine sl_v rfl (r_mv rfl) ?_
    refine bcases (decide ((300 : Int) < ((v14.size : Nat) : Int))) (fun hb16 => ?_) (fun hb16 => ?_)
    · replace h := h.1 (of_decide_eq_true hb16)
      refine sl_no rfl rfl rfl hb16 ?_
      refine sl_no rfl rfl rfl hb16 ?_
      refine sl_no rfl rfl rfl hb16 ?_
      refine sl_no rfl rfl rfl hb16 ?_
      refine sl_no rfl rfl rfl hb16 ?_
      refine sl_no rfl rfl rfl hb16 ?_
      refine sl_no rfl rfl rfl hb16 ?_
      refine sl_v rfl (r_pt rfl hb16 rfl) ?_
      refine sl_nil ?_
      refine cw_ct rfl rfl ?_
      refine cw_seq ?_
      refine cw_region ?_
      refine sl_v rfl (r_as rfl) ?_
      refine sl_nil ?_
      refine cw_ret ?_
      exact rs_1 (rt rfl) ⟨true, rfl, h⟩
    · replace h := h.2 (of_decide_eq_false hb16)
      refine sl_vg rfl rfl rfl hb16 (r_mv rfl) ?_
      refine sl_vg rfl rfl rfl hb16 (r_mv rfl) ?_
      refine sl_vg rfl rfl rfl hb16 (ia_sl_api_Merge (s := a0) (j := k9) (o' := o12 + k9 * 2) rfl rfl hk10 hb13 rfl) ?_
      refine sl_vg rfl rfl rfl hb16 (fa_api_Merge_1 (o' := o12 + k9 * 2 + 1) rfl rfl) ?_
      obtain ⟨v17, hc18, h⟩ := h
      refine sl_vg rfl rfl rfl hb16 (ld_string rfl hc18) ?_
      refine sl_vg rfl rfl rfl hb16 (r_len_s rfl rfl Try.underlying9) ?_
      refine sl_vg rfl rfl rfl hb16 (r_gtr rfl rfl) ?_
      refine sl_v rfl (r_pf rfl hb16 rfl) ?_
      refine sl_nil ?_
      refine bcases (decide ((300 : Int) < ((v17.size : Nat) : Int))) (fun hb19 => ?_) (fun hb19 => ?_)
      · replace h := h.1 (of_decide_eq_true hb19)
        refine cw_ct rfl hb19 ?_
        refine cw_seq ?_
        refine cw_region ?_
        refine sl_v rfl (r_as rfl) ?_
        refine sl_nil ?_
        refine cw_ret ?_
        exact rs_1 (rt rfl) ⟨true, rfl, h⟩
      · replace h := h.2 (of_decide_eq_false hb19)
        refine cw_cf rfl hb19 ?_
        refine cw_skip ?_
        refine cw_region ?_
        refine sl_v rfl (r_mv rfl) ?_
        obtain ⟨z20, hz20, h⟩ := h
        refine sl_v rfl (r_add rfl rfl hz20) ?_
        refine sl_v rfl (r_as rfl) ?_
        refine sl_nil ?_
        exact ⟨(z20), _, (kp (kp (kp (kn rfl) rfl) rfl) rfl), h.1, h.2⟩
  · replace h := h.2 (of_decide_eq_false hb8)
    refine cw_cf rfl hb8 ?_
    refine cw_exit ?_
    refine cw_seq ?_
    refine cw_region ?_
    refine sl_v rfl (r_mv rfl) ?_
    refine sl_v rfl (r_len_l (s := a0) rfl rfl Try.underlying22) ?_
    refine sl_v rfl (r_mv rfl) ?_
    refine sl_v rfl (r_gtr rfl rfl) ?_
    refine sl_v rfl (r_as rfl) ?_
    refine sl_nil ?_
    refine cw_ret ?_
    exact rs_1 (rt rfl) ⟨decide (a1 < ((a0.n : Nat) : Int)), rfl, h⟩

end Go.Proofs.Ytchjcjocihckpaa.G
