/- What is to be shown of each function, and that it is enough. -/
import Derived.Test.YtchjcjocihckpaaTC
set_option linter.unusedVariables false
namespace Go.Proofs.Ytchjcjocihckpaa.G
open Go Go.RowKit
def VC_ref08_Check (a0 : Sl) (R : Int → Int → World → Prop) (w : World) : Prop :=
  ∃ (I2 : Int → World → Prop) (μ3 : Int → World → Nat), I2 0 w ∧ ∀ (l1 : Int) (w5 : World), I2 l1 w5 → ((l1 < ((a0.n : Nat) : Int) → (∃ K10 : Bool → World → Prop, (∀ (j9 : Bool) (w12 : World), K10 j9 w12 → ((j9 = true → (R l1 1 w12)) ∧ (j9 = false → (∃ k26 : Nat, l1 = ((k26 : Nat) : Int) ∧ k26 < a0.n ∧ (∃ (b28 o29 : Nat), a0.b = some ⟨b28, o29, none⟩ ∧ (∃ v31 : ByteArray, w12.cell? ⟨b28, o29 + k26 * 2, none⟩ = some (.string v31) ∧ (((65536 : Int) < ((v31.size : Nat) : Int) → (R ((k26 : Nat) : Int) 4 w12)) ∧ (¬ ((65536 : Int) < ((v31.size : Nat) : Int)) → (∃ K35 : Bool → World → Prop, (∀ (j34 : Bool) (w37 : World), K35 j34 w37 → ((j34 = true → (R ((k26 : Nat) : Int) 6 w37)) ∧ (j34 = false → (∃ z56 : Int, z56 = IntKind.wrap .i64 (((k26 : Nat) : Int) + 1) ∧ (I2 z56 w37 ∧ μ3 z56 w37 < μ3 l1 w5))))) ∧ (((0 : Int) < ((k26 : Nat) : Int) → (∃ z43 : Int, z43 = IntKind.wrap .i64 (((k26 : Nat) : Int) - 1) ∧ (∃ k44 : Nat, z43 = ((k44 : Nat) : Int) ∧ k44 < a0.n ∧ (∃ v46 : ByteArray, w12.cell? ⟨b28, o29 + k44 * 2, none⟩ = some (.string v46) ∧ (∀ w40 : World, Ext w12 w40 → (Calls PP n_ref01_Less #[.string v46, .string v31] w40 (fun e w50 => ∃ r53 : Bool, e = .returned (.bool r53) ∧ (K35 (!r53) w50)))))))) ∧ (¬ ((0 : Int) < ((k26 : Nat) : Int)) → (∀ w40 : World, Ext w12 w40 → (K35 false w40))))))))))))) ∧ (∃ k15 : Nat, l1 = ((k15 : Nat) : Int) ∧ k15 < a0.n ∧ (∃ (b17 o18 : Nat), a0.b = some ⟨b17, o18, none⟩ ∧ (∃ v20 : ByteArray, w5.cell? ⟨b17, o18 + k15 * 2, none⟩ = some (.string v20) ∧ ((v20 = (⟨#[]⟩ : ByteArray) → (K10 true w5)) ∧ (¬ (v20 = (⟨#[]⟩ : ByteArray)) → (∃ v23 : Int, w5.cell? ⟨b17, o18 + k15 * 2 + 1, none⟩ = some (.int .i64 v23) ∧ (K10 (decide (v23 < (1 : Int))) w5))))))))) ∧ (¬ (l1 < ((a0.n : Nat) : Int)) → (Calls PP n_ref08_Weight #[a0.v] w5 (fun e w58 => ∃ r61_0 : Int, ∃ r61_1 : Bool, e = .returned (.tuple #[.int .i64 r61_0, .bool r61_1]) ∧ ((r61_1 = true → (R (-1) 0 w58)) ∧ (r61_1 = false → (R ((a0.n : Nat) : Int) 5 w58)))))))
set_option maxRecDepth 100000 in
theorem vc_ref08_Check {a0 : Sl} {R : Int → Int → World → Prop} {w : World} (h : VC_ref08_Check a0 R w) : Calls PP n_ref08_Check #[a0.v] w fun e w' => ∃ r0 : Int, ∃ r1 : Int, e = .returned (.tuple #[.int .i64 r0, .int .i64 r1]) ∧ R r0 r1 w' := by
  refine Calls.mono (calls_of_cw (n := 63) (rs := #[.tmp 2, .tmp 3]) (args := [a0.v]) (R := fun v w' => ∃ r0 : Int, ∃ r1 : Int, v = .tuple #[.int .i64 r0, .int .i64 r1] ∧ R r0 r1 w') Try.func48 rfl rfl (Nat.le_of_ble_eq_true rfl) rfl ?_) ?_
  case refine_2 => rintro e w' ⟨v, rfl, hr⟩; obtain ⟨r0, r1, rfl, hr⟩ := hr; exact ⟨r0, r1, rfl, hr⟩
  have hx : Ext w w := Chg.refl _
  unfold VC_ref08_Check at h
  refine cw_seq ?_
  refine cw_region ?_
  refine sl_v rfl (r_as rfl) ?_
  refine sl_v rfl (r_as rfl) ?_
  refine sl_nil ?_
  refine cw_seq ?_
  refine cw_seq ?_
  refine cw_region ?_
  refine sl_v rfl (r_as rfl) ?_
  refine sl_nil ?_
  refine cw_block ?_
  obtain ⟨I2, μ3, hI4, h⟩ := h
  refine cw_loop (σ := Int) (fun s g => (upd (upd (nm g []) 0 (a0.v)) 4 (.int .i64 s))) (fun s w => I2 s w) (fun s w => μ3 s w) (0) _ (kp (kp (kn rfl) rfl) rfl) hI4 ?_
  rintro l1 g6 w5 hi7
  replace h := h l1 w5 hi7
  have hx : Ext w5 w5 := Chg.refl _
  change CW _ PP _ _ _ (upd (upd (nm g6 []) 0 (a0.v)) 4 (.int .i64 l1)) _
  refine cw_seq ?_
  refine cw_seq ?_
  refine cw_region ?_
  refine sl_v rfl (r_mv rfl) ?_
  refine sl_v rfl (r_mv rfl) ?_
  refine sl_v rfl (r_len_l (s := a0) rfl rfl Try.underlying46) ?_
  refine sl_v rfl (r_lss rfl rfl) ?_
  refine sl_nil ?_
  refine bcases (decide (l1 < ((a0.n : Nat) : Int))) (fun hb8 => ?_) (fun hb8 => ?_)
  · replace h := h.1 (of_decide_eq_true hb8)
    refine cw_ct rfl hb8 ?_
    refine cw_skip ?_
    refine cw_seq ?_
    refine cw_block ?_
    refine cw_seq ?_
    obtain ⟨K10, hK11, h⟩ := h
    refine cw_mid (fun f w => ∃ (g : Env) (j9 : Bool), f = (upd (upd (upd (nm g []) 0 (a0.v)) 4 (.int .i64 l1)) 26 (.bool j9)) ∧ K10 j9 w) ?_ (fun _ w12 hM14 => ?_)
    ·
      refine cw_region ?_
      refine sl_v rfl (r_mv rfl) ?_
      refine sl_v rfl (r_mv rfl) ?_
      obtain ⟨k15, rfl, hk16, h⟩ := h
      obtain ⟨b17, o18, hb19, h⟩ := h
      refine sl_v rfl (ia_sl_api_Word (s := a0) (j := k15) (o' := o18 + k15 * 2) rfl rfl hk16 hb19 rfl) ?_
      refine sl_v rfl (fa_api_Word_0 (o' := o18 + k15 * 2) rfl rfl) ?_
      obtain ⟨v20, hc21, h⟩ := h
      refine sl_v rfl (ld_string rfl hc21) ?_
      refine sl_v rfl (s_eql rfl rfl) ?_
      refine sl_v rfl (r_mv rfl) ?_
      refine bcases (decide (v20 = (⟨#[]⟩ : ByteArray))) (fun hb22 => ?_) (fun hb22 => ?_)
      · replace h := h.1 (of_decide_eq_true hb22)
        refine sl_no rfl rfl rfl hb22 ?_
        refine sl_no rfl rfl rfl hb22 ?_
        refine sl_no rfl rfl rfl hb22 ?_
        refine sl_no rfl rfl rfl hb22 ?_
        refine sl_no rfl rfl rfl hb22 ?_
        refine sl_no rfl rfl rfl hb22 ?_
        refine sl_v rfl (r_pt rfl hb22 rfl) ?_
        refine sl_nil ?_
        exact ⟨_, true, (kp (kp (kp (kn rfl) rfl) rfl) rfl), h⟩
      · replace h := h.2 (of_decide_eq_false hb22)
        refine sl_vg rfl rfl rfl hb22 (r_mv rfl) ?_
        refine sl_vg rfl rfl rfl hb22 (r_mv rfl) ?_
        refine sl_vg rfl rfl rfl hb22 (ia_sl_api_Word (s := a0) (j := k15) (o' := o18 + k15 * 2) rfl rfl hk16 hb19 rfl) ?_
        refine sl_vg rfl rfl rfl hb22 (fa_api_Word_1 (o' := o18 + k15 * 2 + 1) rfl rfl) ?_
        obtain ⟨v23, hc24, h⟩ := h
        refine sl_vg rfl rfl rfl hb22 (ld_int rfl hc24) ?_
        refine sl_vg rfl rfl rfl hb22 (r_lss rfl rfl) ?_
        refine sl_v rfl (r_pf rfl hb22 rfl) ?_
        refine sl_nil ?_
        exact ⟨_, decide (v23 < (1 : Int)), (kp (kp (kp (kn rfl) rfl) rfl) rfl), h⟩
    ·
      obtain ⟨g13, j9, rfl, hM14⟩ := hM14
      replace h := hK11 j9 w12 hM14
      have hx : Ext w12 w12 := Chg.refl _
      refine bcases (j9) (fun hb25 => ?_) (fun hb25 => ?_)
      · replace h := h.1 hb25
        refine cw_ct rfl hb25 ?_
        refine cw_seq ?_
        refine cw_region ?_
        refine sl_v rfl (r_mv rfl) ?_
        refine sl_v rfl (r_as rfl) ?_
        refine sl_v rfl (r_as rfl) ?_
        refine sl_nil ?_
        refine cw_ret ?_
        exact rs_2 (rt rfl) (rt rfl) ⟨l1, 1, rfl, h⟩
      · replace h := h.2 hb25
        refine cw_cf rfl hb25 ?_
        refine cw_skip ?_
        refine cw_seq ?_
        refine cw_seq ?_
        refine cw_region ?_
        refine sl_v rfl (r_mv rfl) ?_
        refine sl_v rfl (r_mv rfl) ?_
        obtain ⟨k26, rfl, hk27, h⟩ := h
        obtain ⟨b28, o29, hb30, h⟩ := h
        refine sl_v rfl (ia_sl_api_Word (s := a0) (j := k26) (o' := o29 + k26 * 2) rfl rfl hk27 hb30 rfl) ?_
        refine sl_v rfl (fa_api_Word_0 (o' := o29 + k26 * 2) rfl rfl) ?_
        obtain ⟨v31, hc32, h⟩ := h
        refine sl_v rfl (ld_string rfl hc32) ?_
        refine sl_v rfl (r_len_s rfl rfl Try.underlying9) ?_
        refine sl_v rfl (r_gtr rfl rfl) ?_
        refine sl_nil ?_
        refine bcases (decide ((65536 : Int) < ((v31.size : Nat) : Int))) (fun hb33 => ?_) (fun hb33 => ?_)
        · replace h := h.1 (of_decide_eq_true hb33)
          refine cw_ct rfl hb33 ?_
          refine cw_seq ?_
          refine cw_region ?_
          refine sl_v rfl (r_mv rfl) ?_
          refine sl_v rfl (r_as rfl) ?_
          refine sl_v rfl (r_as rfl) ?_
          refine sl_nil ?_
          refine cw_ret ?_
          exact rs_2 (rt rfl) (rt rfl) ⟨((k26 : Nat) : Int), 4, rfl, h⟩
        · replace h := h.2 (of_decide_eq_false hb33)
          refine cw_cf rfl hb33 ?_
          refine cw_skip ?_
          obtain ⟨K35, hK36, h⟩ := h
          refine cw_mid (fun f w => ∃ (g : Env) (j34 : Bool), f = (upd (upd (upd (nm g []) 0 (a0.v)) 4 (.int .i64 ((k26 : Nat) : Int))) 52 (.bool j34)) ∧ K35 j34 w) ?_ (fun _ w37 hM39 => ?_)
          ·
            refine cw_tail 14 mo (by kernel_rfl) (fun w40 hd41 => ?_)
            replace hx := hx.tr (Ext.of_drew hd41)
            refine st_v rfl (r_mv rfl) ?_
            refine st_v rfl (r_gtr rfl rfl) ?_
            refine st_v rfl (r_mv rfl) ?_
            refine bcases (decide ((0 : Int) < ((k26 : Nat) : Int))) (fun hb42 => ?_) (fun hb42 => ?_)
            · replace h := h.1 (of_decide_eq_true hb42)
              refine st_vg rfl rfl rfl hb42 (r_mv rfl) ?_
              refine st_vg rfl rfl rfl hb42 (r_mv rfl) ?_
              obtain ⟨z43, hz43, h⟩ := h
              refine st_vg rfl rfl rfl hb42 (r_sub rfl rfl hz43) ?_
              obtain ⟨k44, rfl, hk45, h⟩ := h
              refine st_vg rfl rfl rfl hb42 (ia_sl_api_Word (s := a0) (j := k44) (o' := o29 + k44 * 2) rfl rfl hk45 hb30 rfl) ?_
              refine st_vg rfl rfl rfl hb42 (fa_api_Word_0 (o' := o29 + k44 * 2) rfl rfl) ?_
              obtain ⟨v46, hc47, h⟩ := h
              refine st_vg rfl rfl rfl hb42 (ld_string rfl (hx.cell hc47)) ?_
              refine st_vg rfl rfl rfl hb42 (r_mv rfl) ?_
              refine st_vg rfl rfl rfl hb42 (r_mv rfl) ?_
              refine st_vg rfl rfl rfl hb42 (ia_sl_api_Word (s := a0) (j := k26) (o' := o29 + k26 * 2) rfl rfl hk27 hb30 rfl) ?_
              refine st_vg rfl rfl rfl hb42 (fa_api_Word_0 (o' := o29 + k26 * 2) rfl rfl) ?_
              refine st_vg rfl rfl rfl hb42 (ld_string rfl (hx.cell hc32)) ?_
              refine st_nil ?_
              replace h := h _ hx
              replace hx : Ext w40 w40 := Chg.refl _
              refine tl_g rfl rfl rfl hb42 (ok_call c_ref01_Less rfl (Calls.mono h (fun e49 w50 hq51 => ?_)))
              clear h
              obtain ⟨r53, he52, h⟩ := hq51
              refine ⟨_, he52, ?_⟩
              replace hx : Ext w50 w50 := Chg.refl _
              refine tl_vg rfl rfl rfl hb42 (r_not rfl) ?_
              refine tl_v rfl (r_pt rfl hb42 rfl) ?_
              refine tl_nil ?_
              exact ⟨_, !r53, (kp (kp (kp (kn rfl) rfl) rfl) rfl), h⟩
            · replace h := h.2 (of_decide_eq_false hb42)
              refine st_no rfl rfl rfl hb42 ?_
              refine st_no rfl rfl rfl hb42 ?_
              refine st_no rfl rfl rfl hb42 ?_
              refine st_no rfl rfl rfl hb42 ?_
              refine st_no rfl rfl rfl hb42 ?_
              refine st_no rfl rfl rfl hb42 ?_
              refine st_no rfl rfl rfl hb42 ?_
              refine st_no rfl rfl rfl hb42 ?_
              refine st_no rfl rfl rfl hb42 ?_
              refine st_no rfl rfl rfl hb42 ?_
              refine st_no rfl rfl rfl hb42 ?_
              refine st_nil ?_
              refine tl_no rfl rfl rfl hb42 ?_
              refine tl_no rfl rfl rfl hb42 ?_
              refine tl_v rfl (r_pf rfl hb42 rfl) ?_
              refine tl_nil ?_
              replace h := h _ hx
              replace hx : Ext w40 w40 := Chg.refl _
              exact ⟨_, false, (kp (kp (kp (kn rfl) rfl) rfl) rfl), h⟩
          ·
            obtain ⟨g38, j34, rfl, hM39⟩ := hM39
            replace h := hK36 j34 w37 hM39
            have hx : Ext w37 w37 := Chg.refl _
            refine bcases (j34) (fun hb55 => ?_) (fun hb55 => ?_)
            · replace h := h.1 hb55
              refine cw_ct rfl hb55 ?_
              refine cw_seq ?_
              refine cw_region ?_
              refine sl_v rfl (r_mv rfl) ?_
              refine sl_v rfl (r_as rfl) ?_
              refine sl_v rfl (r_as rfl) ?_
              refine sl_nil ?_
              refine cw_ret ?_
              exact rs_2 (rt rfl) (rt rfl) ⟨((k26 : Nat) : Int), 6, rfl, h⟩
            · replace h := h.2 hb55
              refine cw_cf rfl hb55 ?_
              refine cw_skip ?_
              refine cw_region ?_
              refine sl_v rfl (r_mv rfl) ?_
              obtain ⟨z56, hz56, h⟩ := h
              refine sl_v rfl (r_add rfl rfl hz56) ?_
              refine sl_v rfl (r_as rfl) ?_
              refine sl_nil ?_
              exact ⟨(z56), _, (kp (kp (kn rfl) rfl) rfl), h.1, h.2⟩
  · replace h := h.2 (of_decide_eq_false hb8)
    refine cw_cf rfl hb8 ?_
    refine cw_exit ?_
    refine cw_seq ?_
    refine cw_seq ?_
    refine cw_region ?_
    refine sl_v rfl (r_mv rfl) ?_
    refine sl_op rfl (ok_call c_ref08_Weight rfl (Calls.mono h (fun e57 w58 hq59 => ?_)))
    clear h
    obtain ⟨r61_0, r61_1, he60, h⟩ := hq59
    refine ⟨_, he60, ?_⟩
    replace hx : Ext w58 w58 := Chg.refl _
    refine sl_v rfl (r_mv rfl) ?_
    refine sl_v rfl (r_ex rfl rfl) ?_
    refine sl_v rfl (r_ex rfl rfl) ?_
    refine sl_v rfl (r_as rfl) ?_
    refine sl_v rfl (r_as rfl) ?_
    refine sl_nil ?_
    refine cw_seq ?_
    refine cw_region ?_
    refine sl_v rfl (r_mv rfl) ?_
    refine sl_v rfl (r_not rfl) ?_
    refine sl_nil ?_
    refine bcases (r61_1) (fun hb62 => ?_) (fun hb62 => ?_)
    · replace h := h.1 hb62
      refine cw_cf rfl (nt hb62) ?_
      refine cw_skip ?_
      refine cw_seq ?_
      refine cw_region ?_
      refine sl_v rfl (r_as rfl) ?_
      refine sl_v rfl (r_as rfl) ?_
      refine sl_nil ?_
      refine cw_ret ?_
      exact rs_2 (rt rfl) (rt rfl) ⟨(-1), 0, rfl, h⟩
    · replace h := h.2 hb62
      refine cw_ct rfl (nf hb62) ?_
      refine cw_seq ?_
      refine cw_region ?_
      refine sl_v rfl (r_mv rfl) ?_
      refine sl_v rfl (r_len_l (s := a0) rfl rfl Try.underlying46) ?_
      refine sl_v rfl (r_as rfl) ?_
      refine sl_v rfl (r_as rfl) ?_
      refine sl_nil ?_
      refine cw_ret ?_
      exact rs_2 (rt rfl) (rt rfl) ⟨((a0.n : Nat) : Int), 5, rfl, h⟩

def VC_ref16_Texts (a0 : ByteArray) (R : Sl → World → Prop) (w : World) : Prop :=
  ∃ (I3 : Sl → Int → World → Prop) (μ4 : Sl → Int → World → Nat), I3 (⟨none, 0, 0⟩ : Sl) 0 w ∧ ∀ (l1 : Sl) (l2 : Int) (w6 : World), I3 l1 l2 w6 → ((l2 < ((a0.size : Nat) : Int) → (∃ z10 : Int, z10 = IntKind.wrap .i64 (l2 + 1) ∧ (∃ k11 : Nat, l2 = ((k11 : Nat) : Int) ∧ (∃ k12 : Nat, z10 = ((k12 : Nat) : Int) ∧ ((k11 ≤ k12 ∧ k12 ≤ a0.size) ∧ (∃ xs22 : List Value, Own w6 t_string 1 l1 xs22 ∧ ((l1.n + 1) * 16 ≤ 140737488355328 ∧ l1.n + 1 ≤ maxLen) ∧ (∀ (s19 : Sl) (w18 : World), App w6 t_string 1 l1 xs22 1 [.string (a0.extract k11 k12)] s19 w18 → (∃ z25 : Int, z25 = IntKind.wrap .i64 (((k11 : Nat) : Int) + 1) ∧ (I3 s19 z25 w18 ∧ μ4 s19 z25 w18 < μ4 l1 l2 w6))))))))) ∧ (¬ (l2 < ((a0.size : Nat) : Int)) → (R l1 w6)))
set_option maxRecDepth 100000 in
theorem vc_ref16_Texts {a0 : ByteArray} {R : Sl → World → Prop} {w : World} (h : VC_ref16_Texts a0 R w) : Calls PP n_ref16_Texts #[.string a0] w fun e w' => ∃ r0 : Sl, e = .returned (r0.v) ∧ R r0 w' := by
  refine Calls.mono (calls_of_cw (n := 20) (rs := #[.tmp 2]) (args := [.string a0]) (R := fun v w' => ∃ r0 : Sl, v = r0.v ∧ R r0 w') Try.func49 rfl rfl (Nat.le_of_ble_eq_true rfl) rfl ?_) ?_
  case refine_2 => rintro e w' ⟨v, rfl, hr⟩; obtain ⟨r0, rfl, hr⟩ := hr; exact ⟨r0, rfl, hr⟩
  have hx : Ext w w := Chg.refl _
  unfold VC_ref16_Texts at h
  refine cw_seq ?_
  refine cw_region ?_
  refine sl_v rfl (r_as rfl) ?_
  refine sl_nil ?_
  refine cw_seq ?_
  refine cw_region ?_
  refine sl_v rfl (r_as rfl) ?_
  refine sl_nil ?_
  refine cw_seq ?_
  refine cw_seq ?_
  refine cw_region ?_
  refine sl_v rfl (r_as rfl) ?_
  refine sl_nil ?_
  refine cw_block ?_
  obtain ⟨I3, μ4, hI5, h⟩ := h
  refine cw_loop (σ := Sl × Int) (fun s g => (upd (upd (upd (nm g []) 0 (.string a0)) 3 (s.1.v)) 4 (.int .i64 s.2))) (fun s w => I3 s.1 s.2 w) (fun s w => μ4 s.1 s.2 w) ((⟨none, 0, 0⟩ : Sl), 0) _ (kp (kp (kp (kn rfl) rfl) rfl) rfl) hI5 ?_
  rintro ⟨l1, l2⟩ g7 w6 hi8
  replace h := h l1 l2 w6 hi8
  have hx : Ext w6 w6 := Chg.refl _
  change CW _ PP _ _ _ (upd (upd (upd (nm g7 []) 0 (.string a0)) 3 (l1.v)) 4 (.int .i64 l2)) _
  refine cw_seq ?_
  refine cw_seq ?_
  refine cw_region ?_
  refine sl_v rfl (r_mv rfl) ?_
  refine sl_v rfl (r_mv rfl) ?_
  refine sl_v rfl (r_len_s rfl rfl Try.underlying9) ?_
  refine sl_v rfl (r_lss rfl rfl) ?_
  refine sl_nil ?_
  refine bcases (decide (l2 < ((a0.size : Nat) : Int))) (fun hb9 => ?_) (fun hb9 => ?_)
  · replace h := h.1 (of_decide_eq_true hb9)
    refine cw_ct rfl hb9 ?_
    refine cw_skip ?_
    refine cw_seq ?_
    refine cw_block ?_
    refine cw_region ?_
    refine sl_v rfl (r_mv rfl) ?_
    refine sl_v rfl (r_mv rfl) ?_
    refine sl_v rfl (r_mv rfl) ?_
    refine sl_v rfl (r_mv rfl) ?_
    obtain ⟨z10, hz10, h⟩ := h
    refine sl_v rfl (r_add rfl rfl hz10) ?_
    obtain ⟨k11, rfl, h⟩ := h
    obtain ⟨k12, rfl, h⟩ := h
    obtain ⟨hr13, h⟩ := h
    refine sl_v rfl (r_ss (s := a0) (l := k11) (h := k12) rfl Try.underlying9 rfl rfl (by intro h; cases h) (by intro h; cases h) hr13) ?_
    refine sl_op rfl (bs_sl_string (len := 1) (vs := [(0, .string (a0.extract k11 k12))]) (cs := #[.string (a0.extract k11 k12)]) (by decide) rfl rfl (fun b14 w15 hN16 => ?_))
    have hB17 := hN16.here
    replace hx := hx.tr hN16.ext
    obtain ⟨xs22, ho23, hb24, h⟩ := h
    refine sl_op rfl (ap_sl_string (s := l1) (xs := xs22) (m := 1) (news := [.string (a0.extract k11 k12)]) rfl rfl hx ho23 (.c (cell_blk hB17 rfl) .n) rfl rfl hb24 (fun s19 w18 ha20 hc21 => ?_))
    replace h := h s19 w18 ha20
    replace hx : Ext w18 w18 := Chg.refl _
    refine sl_v rfl (r_as rfl) ?_
    refine sl_nil ?_
    refine cw_region ?_
    refine sl_v rfl (r_mv rfl) ?_
    obtain ⟨z25, hz25, h⟩ := h
    refine sl_v rfl (r_add rfl rfl hz25) ?_
    refine sl_v rfl (r_as rfl) ?_
    refine sl_nil ?_
    exact ⟨(s19, z25), _, (kp (kp (kp (kn rfl) rfl) rfl) rfl), h.1, h.2⟩
  · replace h := h.2 (of_decide_eq_false hb9)
    refine cw_cf rfl hb9 ?_
    refine cw_exit ?_
    refine cw_seq ?_
    refine cw_region ?_
    refine sl_v rfl (r_mv rfl) ?_
    refine sl_v rfl (r_as rfl) ?_
    refine sl_nil ?_
    refine cw_ret ?_
    exact rs_1 (rt rfl) ⟨l1, rfl, h⟩

def VC_ref16_Best (a0 : Sl) (a1 : Sl) (R : ByteArray → ByteArray → Int → World → Prop) (w : World) : Prop :=
  ∀ (b1 : Nat) (w2 : World), Priv w b1 w2 → (∀ (b5 : Nat) (w6 : World), Priv w2 b5 w6 → (∀ w10 : World, Chg (fun b => b = b5) w6 w10 → (∃ K15 : Int → ByteArray → ByteArray → World → Prop, (∀ (j12 : Int) (j13 : ByteArray) (j14 : ByteArray) (w17 : World), K15 j12 j13 j14 w17 → (∀ w197 : World, Chg (fun b => b = b1) w17 w197 → (R j13 j14 j12 w197))) ∧ (∃ (I25 : Int → Sl → Int → ByteArray → ByteArray → World → Prop) (μ26 : Int → Sl → Int → ByteArray → ByteArray → World → Nat), I25 0 (⟨none, 0, 0⟩ : Sl) 0 (⟨#[]⟩ : ByteArray) (⟨#[]⟩ : ByteArray) w10 ∧ ∀ (l20 : Int) (l21 : Sl) (l22 : Int) (l23 : ByteArray) (l24 : ByteArray) (w28 : World), I25 l20 l21 l22 l23 l24 w28 → ((l22 < ((a0.n : Nat) : Int) → ((l22 < ((a1.n : Nat) : Int) → (∃ (I40 : Int → Sl → Int → ByteArray → ByteArray → World → Prop) (μ41 : Int → Sl → Int → ByteArray → ByteArray → World → Nat), I40 l20 l21 0 l23 l24 w28 ∧ ∀ (l35 : Int) (l36 : Sl) (l37 : Int) (l38 : ByteArray) (l39 : ByteArray) (w43 : World), I40 l35 l36 l37 l38 l39 w43 → (∃ z48 : Int, z48 = IntKind.wrap .i64 (l37 + 1) ∧ (∃ k49 : Nat, l22 = ((k49 : Nat) : Int) ∧ k49 < a0.n ∧ (∃ (b51 o52 : Nat), a0.b = some ⟨b51, o52, none⟩ ∧ (∃ v54 : Sl, w43.cell? ⟨b51, o52 + k49 * 1, none⟩ = some (v54.v) ∧ ((z48 < ((v54.n : Nat) : Int) → (k49 < a1.n ∧ (∃ (b58 o59 : Nat), a1.b = some ⟨b58, o59, none⟩ ∧ (∃ v61 : Int, w43.cell? ⟨b58, o59 + k49 * 1, none⟩ = some (.int .i64 v61) ∧ (((1 : Int) ≤ v61 → (∃ k64 : Nat, l37 = ((k64 : Nat) : Int) ∧ k64 < v54.n ∧ (∃ (b66 o67 : Nat), v54.b = some ⟨b66, o67, none⟩ ∧ (∃ v69 : ByteArray, w43.cell? ⟨b66, o67 + k64 * 1, none⟩ = some (.string v69) ∧ (∃ z71 : Int, z71 = IntKind.wrap .i64 (((k64 : Nat) : Int) + 1) ∧ (∃ k72 : Nat, z71 = ((k72 : Nat) : Int) ∧ k72 < v54.n ∧ (∃ v74 : ByteArray, w43.cell? ⟨b66, o67 + k72 * 1, none⟩ = some (.string v74) ∧ (∀ (b78 : Nat) (w79 : World), Priv w43 b78 w79 → (∀ w84 : World, Chg (fun b => b = b78) w79 w84 → (w84.cell? ⟨b51, o52 + k49 * 1, none⟩ = some (v54.v) ∧ (w84.cell? ⟨b66, o67 + k64 * 1, none⟩ = some (.string v69) ∧ (w84.cell? ⟨b51, o52 + k49 * 1, none⟩ = some (v54.v) ∧ (w84.cell? ⟨b66, o67 + k72 * 1, none⟩ = some (.string v74) ∧ (∃ K91 : Bool → World → Prop, (∀ (j90 : Bool) (w93 : World), K91 j90 w93 → ((j90 = true → (∃ z124 : Int, z124 = IntKind.wrap .i64 (((k64 : Nat) : Int) + 1) ∧ (I40 l35 l36 z124 l38 l39 w93 ∧ μ41 l35 l36 z124 l38 l39 w93 < μ41 l35 l36 l37 l38 l39 w43))) ∧ (j90 = false → (∃ xs136 : List Value, Own w93 t_api_Merge 2 l36 xs136 ∧ ((l36.n + 1) * 32 ≤ 140737488355328 ∧ l36.n + 1 ≤ maxLen) ∧ (l36.blk ≠ some b1 ∧ (l36.blk ≠ some b5 ∧ (l36.blk ≠ some b78 ∧ (∀ (s133 : Sl) (w132 : World), App w93 t_api_Merge 2 l36 xs136 1 [.string v69, .string v74] s133 w132 → (Calls PP n_ref16_Count #[a0.v, a1.v, .agg #[.string v69, .string v74]] w132 (fun e w143 => ∃ r146 : Int, e = .returned (.int .i64 r146) ∧ w143.heap[b1]? = w132.heap[b1]? ∧ w143.heap[b5]? = w132.heap[b5]? ∧ w143.heap[b78]? = w132.heap[b78]? ∧ (∃ K151 : Bool → World → Prop, (∀ (j150 : Bool) (w153 : World), K151 j150 w153 → (∃ K178 : Bool → World → Prop, (∀ (j177 : Bool) (w180 : World), K178 j177 w180 → ((j177 = true → (∀ w189 : World, Chg (fun b => b = b5) w180 w189 → (∃ z191 : Int, z191 = IntKind.wrap .i64 (((k64 : Nat) : Int) + 1) ∧ (I40 r146 s133 z191 v69 v74 w189 ∧ μ41 r146 s133 z191 v69 v74 w189 < μ41 l35 l36 l37 l38 l39 w43)))) ∧ (j177 = false → (∃ z192 : Int, z192 = IntKind.wrap .i64 (((k64 : Nat) : Int) + 1) ∧ (I40 l35 s133 z192 l38 l39 w180 ∧ μ41 l35 s133 z192 l38 l39 w180 < μ41 l35 l36 l37 l38 l39 w43))))) ∧ ((l35 < r146 → (K178 true w153)) ∧ (¬ (l35 < r146) → ((r146 = l35 → (K178 j150 w153)) ∧ (¬ (r146 = l35) → (K178 false w153))))))) ∧ (Calls PP n_ref01_Less #[.string v69, .string l38] w143 (fun e w157 => ∃ r160 : Bool, e = .returned (.bool r160) ∧ w157.heap[b1]? = w143.heap[b1]? ∧ w157.heap[b5]? = w143.heap[b5]? ∧ w157.heap[b78]? = w143.heap[b78]? ∧ ((r160 = true → (K151 true w157)) ∧ (r160 = false → ((v69 = l38 → (Calls PP n_ref01_Less #[.string v74, .string l39] w157 (fun e w167 => ∃ r170 : Bool, e = .returned (.bool r170) ∧ w167.heap[b1]? = w157.heap[b1]? ∧ w167.heap[b5]? = w157.heap[b5]? ∧ w167.heap[b78]? = w157.heap[b78]? ∧ (K151 r170 w167)))) ∧ (¬ (v69 = l38) → (K151 false w157)))))))))))))))))) ∧ (∃ (I98 : Bool → Int → World → Prop) (μ99 : Bool → Int → World → Nat), I98 false 0 w84 ∧ ∀ (l96 : Bool) (l97 : Int) (w101 : World), I98 l96 l97 w101 → ((l97 < ((l36.n : Nat) : Int) → ((l96 = true → (K91 l96 w101)) ∧ (l96 = false → (∃ k111 : Nat, l97 = ((k111 : Nat) : Int) ∧ k111 < l36.n ∧ (∃ (b113 o114 : Nat), l36.b = some ⟨b113, o114, none⟩ ∧ (∃ v116_0 : ByteArray, ∃ v116_1 : ByteArray, Cells w101 b113 (o114 + k111 * 2) [.string v116_0, .string v116_1] ∧ (∃ z118 : Int, z118 = IntKind.wrap .i64 (((k111 : Nat) : Int) + 1) ∧ (∀ w109 : World, Ext w101 w109 → (I98 (decide ((v116_0 = v69) ∧ (v116_1 = v74))) z118 w109 ∧ μ99 (decide ((v116_0 = v69) ∧ (v116_1 = v74))) z118 w109 < μ99 l96 l97 w101))))))))) ∧ (¬ (l97 < ((l36.n : Nat) : Int)) → (K91 l96 w101)))))))))))))))))) ∧ (¬ ((1 : Int) ≤ v61) → (∃ z193 : Int, z193 = IntKind.wrap .i64 (((k49 : Nat) : Int) + 1) ∧ (I25 l35 l36 z193 l38 l39 w43 ∧ μ26 l35 l36 z193 l38 l39 w43 < μ26 l20 l21 l22 l23 l24 w28)))))))) ∧ (¬ (z48 < ((v54.n : Nat) : Int)) → (∃ z194 : Int, z194 = IntKind.wrap .i64 (((k49 : Nat) : Int) + 1) ∧ (I25 l35 l36 z194 l38 l39 w43 ∧ μ26 l35 l36 z194 l38 l39 w43 < μ26 l20 l21 l22 l23 l24 w28)))))))))) ∧ (¬ (l22 < ((a1.n : Nat) : Int)) → (K15 l20 l23 l24 w28)))) ∧ (¬ (l22 < ((a0.n : Nat) : Int)) → (K15 l20 l23 l24 w28)))))))
set_option maxRecDepth 100000 in
theorem vc_ref16_Best {a0 : Sl} {a1 : Sl} {R : ByteArray → ByteArray → Int → World → Prop} {w : World} (h : VC_ref16_Best a0 a1 R w) : Calls PP n_ref16_Best #[a0.v, a1.v] w fun e w' => ∃ r0_0 : ByteArray, ∃ r0_1 : ByteArray, ∃ r1 : Int, e = .returned (.tuple #[.agg #[.string r0_0, .string r0_1], .int .i64 r1]) ∧ R r0_0 r0_1 r1 w' := by
  refine Calls.mono (calls_of_cw (n := 121) (rs := #[.cell 4 70, .tmp 5]) (args := [a0.v, a1.v]) (R := fun v w' => ∃ r0_0 : ByteArray, ∃ r0_1 : ByteArray, ∃ r1 : Int, v = .tuple #[.agg #[.string r0_0, .string r0_1], .int .i64 r1] ∧ R r0_0 r0_1 r1 w') Try.func50 rfl rfl (Nat.le_of_ble_eq_true rfl) rfl ?_) ?_
  case refine_2 => rintro e w' ⟨v, rfl, hr⟩; obtain ⟨r0_0, r0_1, r1, rfl, hr⟩ := hr; exact ⟨r0_0, r0_1, r1, rfl, hr⟩
  have hx : Ext w w := Chg.refl _
  unfold VC_ref16_Best at h
  refine cw_seq ?_
  refine cw_region ?_
  refine sl_op rfl (al_api_Merge rfl (fun b1 w2 hN3 => ?_))
  have hB4 := hN3.here
  replace h := h b1 w2 ⟨hx.tr hN3.ext, Nat.le_trans hx.size hN3.fresh, lt_of_blk hN3.here⟩
  replace hx : Ext w2 w2 := Chg.refl _
  refine sl_v rfl (r_as rfl) ?_
  refine sl_nil ?_
  refine cw_seq ?_
  refine cw_region ?_
  refine sl_v rfl (bd_api_Merge (vs := []) (cs := #[.string (⟨#[]⟩ : ByteArray), .string (⟨#[]⟩ : ByteArray)]) rfl rfl) ?_
  refine sl_op rfl (al_api_Merge rfl (fun b5 w6 hN7 => ?_))
  have hne8 : b1 ≠ b5 := Nat.ne_of_lt (Nat.lt_of_lt_of_le (lt_of_blk hB4) hN7.fresh)
  replace hB4 := hN7.ext.get hB4
  have hB9 := hN7.here
  replace h := h b5 w6 ⟨hx.tr hN7.ext, Nat.le_trans hx.size hN7.fresh, lt_of_blk hN7.here⟩
  replace hx : Ext w6 w6 := Chg.refl _
  refine sl_op rfl (st_api_Merge (vs := [.string (⟨#[]⟩ : ByteArray), .string (⟨#[]⟩ : ByteArray)]) rfl rfl rfl rfl rfl ⟨_, _, hB9, Nat.le_of_ble_eq_true rfl⟩ (fun w10 hw11 => ?_))
  have hc_ := sto_chg hw11
  replace hB4 := hc_.get hB4 hne8
  replace hB9 : w10.heap[b5]? = some (.cells #[.string (⟨#[]⟩ : ByteArray), .string (⟨#[]⟩ : ByteArray)] t_api_Merge (0, 0)) := sto_blk hw11 hB9
  replace h := h w10 (Chg.pre hx hc_)
  replace hx : Ext w10 w10 := Chg.refl _
  clear hc_
  refine sl_v rfl (r_as rfl) ?_
  refine sl_nil ?_
  refine cw_seq ?_
  refine cw_region ?_
  refine sl_v rfl (r_as rfl) ?_
  refine sl_nil ?_
  obtain ⟨K15, hK16, h⟩ := h
  refine cw_mid (fun f w => ∃ (g : Env) (j12 : Int) (j13 : ByteArray) (j14 : ByteArray), f = (upd (upd (upd (nm g []) 4 (.pointer (some ⟨b1, 0, none⟩))) 6 (.pointer (some ⟨b5, 0, none⟩))) 7 (.int .i64 j12)) ∧ w.heap[b1]? = some (.cells #[.string (⟨#[]⟩ : ByteArray), .string (⟨#[]⟩ : ByteArray)] t_api_Merge (0, 0)) ∧ w.heap[b5]? = some (.cells #[.string j13, .string j14] t_api_Merge (0, 0)) ∧ K15 j12 j13 j14 w) ?_ (fun _ w17 hM19 => ?_)
  ·
    refine cw_seq ?_
    refine cw_region ?_
    refine sl_v rfl (r_as rfl) ?_
    refine sl_nil ?_
    refine cw_block ?_
    obtain ⟨I25, μ26, hI27, h⟩ := h
    refine cw_loop (σ := Int × Sl × Int × ByteArray × ByteArray) (fun s g => (upd (upd (upd (upd (upd (upd (upd (nm g []) 0 (a0.v)) 1 (a1.v)) 4 (.pointer (some ⟨b1, 0, none⟩))) 6 (.pointer (some ⟨b5, 0, none⟩))) 7 (.int .i64 s.1)) 8 (s.2.1.v)) 9 (.int .i64 s.2.2.1))) (fun s w => w.heap[b1]? = some (.cells #[.string (⟨#[]⟩ : ByteArray), .string (⟨#[]⟩ : ByteArray)] t_api_Merge (0, 0)) ∧ w.heap[b5]? = some (.cells #[.string s.2.2.2.1, .string s.2.2.2.2] t_api_Merge (0, 0)) ∧ I25 s.1 s.2.1 s.2.2.1 s.2.2.2.1 s.2.2.2.2 w) (fun s w => μ26 s.1 s.2.1 s.2.2.1 s.2.2.2.1 s.2.2.2.2 w) (0, (⟨none, 0, 0⟩ : Sl), 0, (⟨#[]⟩ : ByteArray), (⟨#[]⟩ : ByteArray)) _ (kp (kp (kp (kp (kp (kp (kp (kn rfl) rfl) rfl) rfl) rfl) rfl) rfl) rfl) ⟨hB4, hB9, hI27⟩ ?_
    rintro ⟨l20, l21, l22, l23, l24⟩ g29 w28 ⟨hB31, hB32, hi30⟩
    replace h := h l20 l21 l22 l23 l24 w28 hi30
    have hx : Ext w28 w28 := Chg.refl _
    change CW _ PP _ _ _ (upd (upd (upd (upd (upd (upd (upd (nm g29 []) 0 (a0.v)) 1 (a1.v)) 4 (.pointer (some ⟨b1, 0, none⟩))) 6 (.pointer (some ⟨b5, 0, none⟩))) 7 (.int .i64 l20)) 8 (l21.v)) 9 (.int .i64 l22)) _
    refine cw_seq ?_
    refine cw_seq ?_
    refine cw_region ?_
    refine sl_v rfl (r_mv rfl) ?_
    refine sl_v rfl (r_mv rfl) ?_
    refine sl_v rfl (r_len_l (s := a0) rfl rfl Try.underlying53) ?_
    refine sl_v rfl (r_lss rfl rfl) ?_
    refine sl_v rfl (r_mv rfl) ?_
    refine bcases (decide (l22 < ((a0.n : Nat) : Int))) (fun hb33 => ?_) (fun hb33 => ?_)
    · replace h := h.1 (of_decide_eq_true hb33)
      refine sl_vg rfl rfl rfl hb33 (r_mv rfl) ?_
      refine sl_vg rfl rfl rfl hb33 (r_mv rfl) ?_
      refine sl_vg rfl rfl rfl hb33 (r_len_l (s := a1) rfl rfl Try.underlying58) ?_
      refine sl_vg rfl rfl rfl hb33 (r_lss rfl rfl) ?_
      refine sl_v rfl (r_pt rfl hb33 rfl) ?_
      refine sl_nil ?_
      refine bcases (decide (l22 < ((a1.n : Nat) : Int))) (fun hb34 => ?_) (fun hb34 => ?_)
      · replace h := h.1 (of_decide_eq_true hb34)
        refine cw_ct rfl hb34 ?_
        refine cw_skip ?_
        refine cw_seq ?_
        refine cw_block ?_
        refine cw_seq ?_
        refine cw_region ?_
        refine sl_v rfl (r_as rfl) ?_
        refine sl_nil ?_
        refine cw_block ?_
        obtain ⟨I40, μ41, hI42, h⟩ := h
        refine cw_loop (σ := Int × Sl × Int × ByteArray × ByteArray) (fun s g => (upd (upd (upd (upd (upd (upd (upd (upd (upd (upd (upd (upd (nm g []) 0 (a0.v)) 1 (a1.v)) 4 (.pointer (some ⟨b1, 0, none⟩))) 6 (.pointer (some ⟨b5, 0, none⟩))) 7 (.int .i64 s.1)) 8 (s.2.1.v)) 9 (.int .i64 l22)) 10 (.int .i64 s.2.2.1)) 22 (.int .i64 l22)) 23 (a1.v)) 24 (.int .i64 ((a1.n : Nat) : Int))) 25 (.bool (decide (l22 < ((a1.n : Nat) : Int)))))) (fun s w => w.heap[b1]? = some (.cells #[.string (⟨#[]⟩ : ByteArray), .string (⟨#[]⟩ : ByteArray)] t_api_Merge (0, 0)) ∧ w.heap[b5]? = some (.cells #[.string s.2.2.2.1, .string s.2.2.2.2] t_api_Merge (0, 0)) ∧ I40 s.1 s.2.1 s.2.2.1 s.2.2.2.1 s.2.2.2.2 w) (fun s w => μ41 s.1 s.2.1 s.2.2.1 s.2.2.2.1 s.2.2.2.2 w) (l20, l21, 0, l23, l24) _ (kp (kp (kp (kp (kp (kp (kp (kp (kp (kp (kp (kp (kn rfl) rfl) rfl) rfl) rfl) rfl) rfl) rfl) rfl) rfl) rfl) rfl) rfl) ⟨hB31, hB32, hI42⟩ ?_
        rintro ⟨l35, l36, l37, l38, l39⟩ g44 w43 ⟨hB46, hB47, hi45⟩
        replace h := h l35 l36 l37 l38 l39 w43 hi45
        have hx : Ext w43 w43 := Chg.refl _
        change CW _ PP _ _ _ (upd (upd (upd (upd (upd (upd (upd (upd (upd (upd (upd (upd (nm g44 []) 0 (a0.v)) 1 (a1.v)) 4 (.pointer (some ⟨b1, 0, none⟩))) 6 (.pointer (some ⟨b5, 0, none⟩))) 7 (.int .i64 l35)) 8 (l36.v)) 9 (.int .i64 l22)) 10 (.int .i64 l37)) 22 (.int .i64 l22)) 23 (a1.v)) 24 (.int .i64 ((a1.n : Nat) : Int))) 25 (.bool (decide (l22 < ((a1.n : Nat) : Int))))) _
        refine cw_seq ?_
        refine cw_seq ?_
        refine cw_region ?_
        refine sl_v rfl (r_mv rfl) ?_
        obtain ⟨z48, hz48, h⟩ := h
        refine sl_v rfl (r_add rfl rfl hz48) ?_
        refine sl_v rfl (r_mv rfl) ?_
        refine sl_v rfl (r_mv rfl) ?_
        obtain ⟨k49, rfl, hk50, h⟩ := h
        obtain ⟨b51, o52, hb53, h⟩ := h
        refine sl_v rfl (ia_sl_sl_string (s := a0) (j := k49) (o' := o52 + k49 * 1) rfl rfl hk50 hb53 rfl) ?_
        obtain ⟨v54, hc55, h⟩ := h
        refine sl_v rfl (ld_sl_string rfl hc55) ?_
        refine sl_v rfl (r_len_l (s := v54) rfl rfl Try.underlying37) ?_
        refine sl_v rfl (r_lss rfl rfl) ?_
        refine sl_v rfl (r_mv rfl) ?_
        refine bcases (decide (z48 < ((v54.n : Nat) : Int))) (fun hb56 => ?_) (fun hb56 => ?_)
        · replace h := h.1 (of_decide_eq_true hb56)
          refine sl_vg rfl rfl rfl hb56 (r_mv rfl) ?_
          refine sl_vg rfl rfl rfl hb56 (r_mv rfl) ?_
          obtain ⟨hk57, h⟩ := h
          obtain ⟨b58, o59, hb60, h⟩ := h
          refine sl_vg rfl rfl rfl hb56 (ia_sl_int (s := a1) (j := k49) (o' := o59 + k49 * 1) rfl rfl hk57 hb60 rfl) ?_
          obtain ⟨v61, hc62, h⟩ := h
          refine sl_vg rfl rfl rfl hb56 (ld_int rfl hc62) ?_
          refine sl_vg rfl rfl rfl hb56 (r_geq rfl rfl) ?_
          refine sl_v rfl (r_pt rfl hb56 rfl) ?_
          refine sl_nil ?_
          refine bcases (decide ((1 : Int) ≤ v61)) (fun hb63 => ?_) (fun hb63 => ?_)
          · replace h := h.1 (of_decide_eq_true hb63)
            refine cw_ct rfl hb63 ?_
            refine cw_skip ?_
            refine cw_seq ?_
            refine cw_block ?_
            refine cw_seq ?_
            obtain ⟨k64, rfl, hk65, h⟩ := h
            obtain ⟨b66, o67, hb68, h⟩ := h
            obtain ⟨v69, hc70, h⟩ := h
            obtain ⟨z71, hz71, h⟩ := h
            obtain ⟨k72, rfl, hk73, h⟩ := h
            obtain ⟨v74, hc75, h⟩ := h
            refine cw_dw (S := fun w' => w'.cell? ⟨b51, o52 + k49 * 1, none⟩ = some (v54.v) ∧ w'.cell? ⟨b66, o67 + k64 * 1, none⟩ = some (.string v69) ∧ w'.cell? ⟨b51, o52 + k49 * 1, none⟩ = some (v54.v) ∧ w'.cell? ⟨b66, o67 + k72 * 1, none⟩ = some (.string v74) ∧ True) mo (fun w76 hd77 => ?_)
            replace hB46 := (Ext.of_drew hd77).get hB46
            replace hB47 := (Ext.of_drew hd77).get hB47
            replace hx := hx.tr (Ext.of_drew hd77)
            have hS : w76.cell? ⟨b51, o52 + k49 * 1, none⟩ = some (v54.v) ∧ w76.cell? ⟨b66, o67 + k64 * 1, none⟩ = some (.string v69) ∧ w76.cell? ⟨b51, o52 + k49 * 1, none⟩ = some (v54.v) ∧ w76.cell? ⟨b66, o67 + k72 * 1, none⟩ = some (.string v74) ∧ True := ⟨hx.cell hc55, hx.cell hc70, hx.cell hc55, hx.cell hc75, trivial⟩
            refine dw_t 0 1 rfl (by kernel_rfl) rfl hS (fun _ _ => (r_mv rfl)) ?_
            refine dw_t 1 3 rfl (by kernel_rfl) rfl hS (fun _ _ => (r_mv rfl)) ?_
            refine dw_t 2 7 rfl (by kernel_rfl) rfl hS (fun _ _ => (ia_sl_sl_string (s := a0) (j := k49) (o' := o52 + k49 * 1) rfl rfl hk50 hb53 rfl)) ?_
            refine dw_t 3 15 rfl (by kernel_rfl) rfl hS (fun _ hS => (ld_sl_string rfl hS.1)) ?_
            refine dw_t 4 31 rfl (by kernel_rfl) rfl hS (fun _ _ => (r_mv rfl)) ?_
            refine dw_t 5 63 rfl (by kernel_rfl) rfl hS (fun _ _ => (ia_sl_string (s := v54) (j := k64) (o' := o67 + k64 * 1) rfl rfl hk65 hb68 rfl)) ?_
            refine dw_t 6 127 rfl (by kernel_rfl) rfl hS (fun _ hS => (ld_string rfl hS.2.1)) ?_
            refine dw_t 7 255 rfl (by kernel_rfl) rfl hS (fun _ _ => (r_mv rfl)) ?_
            refine dw_t 8 511 rfl (by kernel_rfl) rfl hS (fun _ _ => (r_mv rfl)) ?_
            refine dw_t 9 1023 rfl (by kernel_rfl) rfl hS (fun _ _ => (ia_sl_sl_string (s := a0) (j := k49) (o' := o52 + k49 * 1) rfl rfl hk50 hb53 rfl)) ?_
            refine dw_t 10 2047 rfl (by kernel_rfl) rfl hS (fun _ hS => (ld_sl_string rfl hS.2.2.1)) ?_
            refine dw_t 11 4095 rfl (by kernel_rfl) rfl hS (fun _ _ => (r_mv rfl)) ?_
            refine dw_t 12 8191 rfl (by kernel_rfl) rfl hS (fun _ _ => (r_add rfl rfl hz71)) ?_
            refine dw_t 13 16383 rfl (by kernel_rfl) rfl hS (fun _ _ => (ia_sl_string (s := v54) (j := k72) (o' := o67 + k72 * 1) rfl rfl hk73 hb68 rfl)) ?_
            refine dw_t 14 32767 rfl (by kernel_rfl) rfl hS (fun _ hS => (ld_string rfl hS.2.2.2.1)) ?_
            refine dw_t 15 65535 rfl (by kernel_rfl) rfl hS (fun _ _ => (bd_api_Merge (vs := [(0, .string v69), (1, .string v74)]) (cs := #[.string v69, .string v74]) rfl rfl)) ?_
            refine dw_l 16 131071 rfl (by kernel_rfl) rfl (al_api_Merge rfl (fun b78 w79 hN80 => ?_))
            have hne81 : b1 ≠ b78 := Nat.ne_of_lt (Nat.lt_of_lt_of_le (lt_of_blk hB46) hN80.fresh)
            have hne82 : b5 ≠ b78 := Nat.ne_of_lt (Nat.lt_of_lt_of_le (lt_of_blk hB47) hN80.fresh)
            replace hB46 := hN80.ext.get hB46
            replace hB47 := hN80.ext.get hB47
            have hB83 := hN80.here
            replace h := h b78 w79 ⟨hx.tr hN80.ext, Nat.le_trans hx.size hN80.fresh, lt_of_blk hN80.here⟩
            replace hx : Ext w79 w79 := Chg.refl _
            replace hS : w79.cell? ⟨b51, o52 + k49 * 1, none⟩ = some (v54.v) ∧ w79.cell? ⟨b66, o67 + k64 * 1, none⟩ = some (.string v69) ∧ w79.cell? ⟨b51, o52 + k49 * 1, none⟩ = some (v54.v) ∧ w79.cell? ⟨b66, o67 + k72 * 1, none⟩ = some (.string v74) ∧ True := ⟨hN80.ext.cell hS.1, hN80.ext.cell hS.2.1, hN80.ext.cell hS.2.2.1, hN80.ext.cell hS.2.2.2.1, trivial⟩
            refine ⟨hS, ?_⟩
            refine dw_l 17 262143 rfl (by kernel_rfl) rfl (st_api_Merge (vs := [.string v69, .string v74]) rfl rfl rfl rfl rfl ⟨_, _, hB83, Nat.le_of_ble_eq_true rfl⟩ (fun w84 hw85 => ?_))
            have hc_ := sto_chg hw85
            replace hB46 := hc_.get hB46 hne81
            replace hB47 := hc_.get hB47 hne82
            replace hB83 : w84.heap[b78]? = some (.cells #[.string v69, .string v74] t_api_Merge (0, 0)) := sto_blk hw85 hB83
            replace h := h w84 (Chg.pre hx hc_)
            replace hx : Ext w84 w84 := Chg.refl _
            clear hc_
            obtain ⟨hq86, h⟩ := h
            obtain ⟨hq87, h⟩ := h
            obtain ⟨hq88, h⟩ := h
            obtain ⟨hq89, h⟩ := h
            replace hS : w84.cell? ⟨b51, o52 + k49 * 1, none⟩ = some (v54.v) ∧ w84.cell? ⟨b66, o67 + k64 * 1, none⟩ = some (.string v69) ∧ w84.cell? ⟨b51, o52 + k49 * 1, none⟩ = some (v54.v) ∧ w84.cell? ⟨b66, o67 + k72 * 1, none⟩ = some (.string v74) ∧ True := ⟨hq86, hq87, hq88, hq89, trivial⟩
            refine ⟨hS, ?_⟩
            refine dw_d (by kernel_rfl) ?_
            clear hS
            refine cw_seq ?_
            refine cw_region ?_
            refine sl_v rfl (r_as rfl) ?_
            refine sl_nil ?_
            obtain ⟨K91, hK92, h⟩ := h
            refine cw_mid (fun f w => ∃ (g : Env) (j90 : Bool), f = (upd (upd (upd (upd (upd (upd (upd (upd (upd (upd (upd (upd (upd (upd (upd (upd (upd (upd (upd (nm g []) 0 (a0.v)) 1 (a1.v)) 4 (.pointer (some ⟨b1, 0, none⟩))) 6 (.pointer (some ⟨b5, 0, none⟩))) 7 (.int .i64 l35)) 8 (l36.v)) 9 (.int .i64 ((k49 : Nat) : Int))) 10 (.int .i64 ((k64 : Nat) : Int))) 11 (.pointer (some ⟨b78, 0, none⟩))) 12 (.bool j90)) 22 (.int .i64 ((k49 : Nat) : Int))) 23 (a1.v)) 24 (.int .i64 ((a1.n : Nat) : Int))) 25 (.bool (decide (((k49 : Nat) : Int) < ((a1.n : Nat) : Int))))) 38 (a1.v)) 39 (.int .i64 ((k49 : Nat) : Int))) 40 (.pointer (some ⟨b58, o59 + k49 * 1, none⟩))) 41 (.int .i64 v61)) 42 (.bool (decide ((1 : Int) ≤ v61)))) ∧ w.heap[b1]? = some (.cells #[.string (⟨#[]⟩ : ByteArray), .string (⟨#[]⟩ : ByteArray)] t_api_Merge (0, 0)) ∧ w.heap[b5]? = some (.cells #[.string l38, .string l39] t_api_Merge (0, 0)) ∧ w.heap[b78]? = some (.cells #[.string v69, .string v74] t_api_Merge (0, 0)) ∧ K91 j90 w) ?_ (fun _ w93 hM95 => ?_)
            ·
              refine cw_seq ?_
              refine cw_region ?_
              refine sl_v rfl (r_as rfl) ?_
              refine sl_nil ?_
              refine cw_block ?_
              obtain ⟨I98, μ99, hI100, h⟩ := h
              refine cw_loop (σ := Bool × Int) (fun s g => (upd (upd (upd (upd (upd (upd (upd (upd (upd (upd (upd (upd (upd (upd (upd (upd (upd (upd (upd (upd (nm g []) 0 (a0.v)) 1 (a1.v)) 4 (.pointer (some ⟨b1, 0, none⟩))) 6 (.pointer (some ⟨b5, 0, none⟩))) 7 (.int .i64 l35)) 8 (l36.v)) 9 (.int .i64 ((k49 : Nat) : Int))) 10 (.int .i64 ((k64 : Nat) : Int))) 11 (.pointer (some ⟨b78, 0, none⟩))) 12 (.bool s.1)) 13 (.int .i64 s.2)) 22 (.int .i64 ((k49 : Nat) : Int))) 23 (a1.v)) 24 (.int .i64 ((a1.n : Nat) : Int))) 25 (.bool (decide (((k49 : Nat) : Int) < ((a1.n : Nat) : Int))))) 38 (a1.v)) 39 (.int .i64 ((k49 : Nat) : Int))) 40 (.pointer (some ⟨b58, o59 + k49 * 1, none⟩))) 41 (.int .i64 v61)) 42 (.bool (decide ((1 : Int) ≤ v61))))) (fun s w => w.heap[b1]? = some (.cells #[.string (⟨#[]⟩ : ByteArray), .string (⟨#[]⟩ : ByteArray)] t_api_Merge (0, 0)) ∧ w.heap[b5]? = some (.cells #[.string l38, .string l39] t_api_Merge (0, 0)) ∧ w.heap[b78]? = some (.cells #[.string v69, .string v74] t_api_Merge (0, 0)) ∧ I98 s.1 s.2 w) (fun s w => μ99 s.1 s.2 w) (false, 0) _ (kp (kp (kp (kp (kp (kp (kp (kp (kp (kp (kp (kp (kp (kp (kp (kp (kp (kp (kp (kp (kn rfl) rfl) rfl) rfl) rfl) rfl) rfl) rfl) rfl) rfl) rfl) rfl) rfl) rfl) rfl) rfl) rfl) rfl) rfl) rfl) rfl) ⟨hB46, hB47, hB83, hI100⟩ ?_
              rintro ⟨l96, l97⟩ g102 w101 ⟨hB104, hB105, hB106, hi103⟩
              replace h := h l96 l97 w101 hi103
              have hx : Ext w101 w101 := Chg.refl _
              change CW _ PP _ _ _ (upd (upd (upd (upd (upd (upd (upd (upd (upd (upd (upd (upd (upd (upd (upd (upd (upd (upd (upd (upd (nm g102 []) 0 (a0.v)) 1 (a1.v)) 4 (.pointer (some ⟨b1, 0, none⟩))) 6 (.pointer (some ⟨b5, 0, none⟩))) 7 (.int .i64 l35)) 8 (l36.v)) 9 (.int .i64 ((k49 : Nat) : Int))) 10 (.int .i64 ((k64 : Nat) : Int))) 11 (.pointer (some ⟨b78, 0, none⟩))) 12 (.bool l96)) 13 (.int .i64 l97)) 22 (.int .i64 ((k49 : Nat) : Int))) 23 (a1.v)) 24 (.int .i64 ((a1.n : Nat) : Int))) 25 (.bool (decide (((k49 : Nat) : Int) < ((a1.n : Nat) : Int))))) 38 (a1.v)) 39 (.int .i64 ((k49 : Nat) : Int))) 40 (.pointer (some ⟨b58, o59 + k49 * 1, none⟩))) 41 (.int .i64 v61)) 42 (.bool (decide ((1 : Int) ≤ v61)))) _
              refine cw_seq ?_
              refine cw_seq ?_
              refine cw_region ?_
              refine sl_v rfl (r_mv rfl) ?_
              refine sl_v rfl (r_mv rfl) ?_
              refine sl_v rfl (r_len_l (s := l36) rfl rfl Try.underlying22) ?_
              refine sl_v rfl (r_lss rfl rfl) ?_
              refine sl_v rfl (r_mv rfl) ?_
              refine bcases (decide (l97 < ((l36.n : Nat) : Int))) (fun hb107 => ?_) (fun hb107 => ?_)
              · replace h := h.1 (of_decide_eq_true hb107)
                refine sl_vg rfl rfl rfl hb107 (r_mv rfl) ?_
                refine sl_vg rfl rfl rfl hb107 (r_not rfl) ?_
                refine sl_v rfl (r_pt rfl hb107 rfl) ?_
                refine sl_nil ?_
                refine bcases (l96) (fun hb108 => ?_) (fun hb108 => ?_)
                · replace h := h.1 hb108
                  refine cw_cf rfl (nt hb108) ?_
                  refine cw_exit ?_
                  exact ⟨_, l96, (kp (kp (kp (kp (kp (kp (kp (kp (kp (kp (kp (kp (kp (kp (kp (kp (kp (kp (kp (kn rfl) rfl) rfl) rfl) rfl) rfl) rfl) rfl) rfl) rfl) rfl) rfl) rfl) rfl) rfl) rfl) rfl) rfl) rfl) rfl), hB104, hB105, hB106, h⟩
                · replace h := h.2 hb108
                  refine cw_ct rfl (nf hb108) ?_
                  refine cw_skip ?_
                  refine cw_seq ?_
                  refine cw_block ?_
                  refine cw_still mo (by kernel_rfl) (fun w109 hd110 => ?_)
                  replace hB104 := (Ext.of_drew hd110).get hB104
                  replace hB105 := (Ext.of_drew hd110).get hB105
                  replace hB106 := (Ext.of_drew hd110).get hB106
                  replace hx := hx.tr (Ext.of_drew hd110)
                  refine st_v rfl (r_mv rfl) ?_
                  refine st_v rfl (r_mv rfl) ?_
                  obtain ⟨k111, rfl, hk112, h⟩ := h
                  obtain ⟨b113, o114, hb115, h⟩ := h
                  refine st_v rfl (ia_sl_api_Merge (s := l36) (j := k111) (o' := o114 + k111 * 2) rfl rfl hk112 hb115 rfl) ?_
                  obtain ⟨v116_0, v116_1, hc117, h⟩ := h
                  refine st_v rfl (lda_api_Merge rfl rfl (Cells.ext hx hc117)) ?_
                  refine st_v rfl (lda_api_Merge (vs := [.string v69, .string v74]) rfl rfl (.c (cell_blk hB106 rfl) (.c (cell_blk hB106 rfl) .n))) ?_
                  refine st_v rfl (a_eql (xs := #[.string v116_0, .string v116_1]) (ys := #[.string v69, .string v74]) (bs := [decide (v116_0 = v69), decide (v116_1 = v74)]) Try.underlying70 eqf_api_Merge rfl rfl (.cons rfl (feq_str Try.underlying9 rfl rfl) (.cons rfl (feq_str Try.underlying9 rfl rfl) .nil)) al2) ?_
                  refine st_v rfl (r_as rfl) ?_
                  refine st_nil ?_
                  refine cw_region ?_
                  refine sl_v rfl (r_mv rfl) ?_
                  obtain ⟨z118, hz118, h⟩ := h
                  refine sl_v rfl (r_add rfl rfl hz118) ?_
                  refine sl_v rfl (r_as rfl) ?_
                  refine sl_nil ?_
                  replace h := h _ hx
                  replace hx : Ext w109 w109 := Chg.refl _
                  exact ⟨(decide ((v116_0 = v69) ∧ (v116_1 = v74)), z118), _, (kp (kp (kp (kp (kp (kp (kp (kp (kp (kp (kp (kp (kp (kp (kp (kp (kp (kp (kp (kp (kn rfl) rfl) rfl) rfl) rfl) rfl) rfl) rfl) rfl) rfl) rfl) rfl) rfl) rfl) rfl) rfl) rfl) rfl) rfl) rfl) rfl), ⟨hB104, hB105, hB106, h.1⟩, h.2⟩
              · replace h := h.2 (of_decide_eq_false hb107)
                refine sl_no rfl rfl rfl hb107 ?_
                refine sl_no rfl rfl rfl hb107 ?_
                refine sl_v rfl (r_pf rfl hb107 rfl) ?_
                refine sl_nil ?_
                refine cw_cf rfl rfl ?_
                refine cw_exit ?_
                exact ⟨_, l96, (kp (kp (kp (kp (kp (kp (kp (kp (kp (kp (kp (kp (kp (kp (kp (kp (kp (kp (kp (kn rfl) rfl) rfl) rfl) rfl) rfl) rfl) rfl) rfl) rfl) rfl) rfl) rfl) rfl) rfl) rfl) rfl) rfl) rfl) rfl), hB104, hB105, hB106, h⟩
            ·
              obtain ⟨g94, j90, rfl, hB120, hB121, hB122, hM95⟩ := hM95
              replace h := hK92 j90 w93 hM95
              have hx : Ext w93 w93 := Chg.refl _
              refine cw_seq ?_
              refine cw_seq ?_
              refine cw_region ?_
              refine sl_v rfl (r_mv rfl) ?_
              refine sl_nil ?_
              refine bcases (j90) (fun hb123 => ?_) (fun hb123 => ?_)
              · replace h := h.1 hb123
                refine cw_ct rfl hb123 ?_
                refine cw_exit ?_
                refine cw_region ?_
                refine sl_v rfl (r_mv rfl) ?_
                obtain ⟨z124, hz124, h⟩ := h
                refine sl_v rfl (r_add rfl rfl hz124) ?_
                refine sl_v rfl (r_as rfl) ?_
                refine sl_nil ?_
                exact ⟨(l35, l36, z124, l38, l39), _, (kp (kp (kp (kp (kp (kp (kp (kp (kp (kp (kp (kp (kn rfl) rfl) rfl) rfl) rfl) rfl) rfl) rfl) rfl) rfl) rfl) rfl) rfl), ⟨hB120, hB121, h.1⟩, h.2⟩
              · replace h := h.2 hb123
                refine cw_cf rfl hb123 ?_
                refine cw_skip ?_
                refine cw_seq ?_
                refine cw_region ?_
                refine sl_v rfl (r_mv rfl) ?_
                refine sl_v rfl (lda_api_Merge (vs := [.string v69, .string v74]) rfl rfl (.c (cell_blk hB122 rfl) (.c (cell_blk hB122 rfl) .n))) ?_
                refine sl_op rfl (bs_sl_api_Merge (len := 1) (vs := [(0, .agg #[.string v69, .string v74])]) (cs := #[.string v69, .string v74]) (by decide) rfl rfl (fun b125 w126 hN127 => ?_))
                have hne128 : b1 ≠ b125 := Nat.ne_of_lt (Nat.lt_of_lt_of_le (lt_of_blk hB120) hN127.fresh)
                have hne129 : b5 ≠ b125 := Nat.ne_of_lt (Nat.lt_of_lt_of_le (lt_of_blk hB121) hN127.fresh)
                have hne130 : b78 ≠ b125 := Nat.ne_of_lt (Nat.lt_of_lt_of_le (lt_of_blk hB122) hN127.fresh)
                replace hB120 := hN127.ext.get hB120
                replace hB121 := hN127.ext.get hB121
                replace hB122 := hN127.ext.get hB122
                have hB131 := hN127.here
                replace hx := hx.tr hN127.ext
                obtain ⟨xs136, ho137, hb138, h⟩ := h
                obtain ⟨hn139, h⟩ := h
                obtain ⟨hn140, h⟩ := h
                obtain ⟨hn141, h⟩ := h
                refine sl_op rfl (ap_sl_api_Merge (s := l36) (xs := xs136) (m := 1) (news := [.string v69, .string v74]) rfl rfl hx ho137 (.c (cell_blk hB131 rfl) (.c (cell_blk hB131 rfl) .n)) rfl rfl hb138 (fun s133 w132 ha134 hc135 => ?_))
                replace hB120 := hc135.get hB120 hn139
                replace hB121 := hc135.get hB121 hn140
                replace hB122 := hc135.get hB122 hn141
                replace h := h s133 w132 ha134
                replace hx : Ext w132 w132 := Chg.refl _
                refine sl_v rfl (r_as rfl) ?_
                refine sl_nil ?_
                refine cw_seq ?_
                refine cw_region ?_
                refine sl_v rfl (r_mv rfl) ?_
                refine sl_v rfl (r_mv rfl) ?_
                refine sl_v rfl (lda_api_Merge (vs := [.string v69, .string v74]) rfl rfl (.c (cell_blk hB122 rfl) (.c (cell_blk hB122 rfl) .n))) ?_
                refine sl_op rfl (ok_call c_ref16_Count rfl (Calls.mono h (fun e142 w143 hq144 => ?_)))
                clear h
                obtain ⟨r146, he145, hk147, hk148, hk149, h⟩ := hq144
                refine ⟨_, he145, ?_⟩
                replace hB120 := hk147.trans hB120
                replace hB121 := hk148.trans hB121
                replace hB122 := hk149.trans hB122
                replace hx : Ext w143 w143 := Chg.refl _
                refine sl_v rfl (r_as rfl) ?_
                refine sl_nil ?_
                obtain ⟨K151, hK152, h⟩ := h
                refine cw_mid (fun f w => ∃ (g : Env) (j150 : Bool), f = (upd (upd (upd (upd (upd (upd (upd (upd (upd (upd (upd (upd (upd (upd (upd (upd (upd (upd (upd (upd (nm g []) 0 (a0.v)) 1 (a1.v)) 4 (.pointer (some ⟨b1, 0, none⟩))) 6 (.pointer (some ⟨b5, 0, none⟩))) 7 (.int .i64 l35)) 8 (s133.v)) 9 (.int .i64 ((k49 : Nat) : Int))) 10 (.int .i64 ((k64 : Nat) : Int))) 11 (.pointer (some ⟨b78, 0, none⟩))) 14 (.int .i64 r146)) 15 (.bool j150)) 22 (.int .i64 ((k49 : Nat) : Int))) 23 (a1.v)) 24 (.int .i64 ((a1.n : Nat) : Int))) 25 (.bool (decide (((k49 : Nat) : Int) < ((a1.n : Nat) : Int))))) 38 (a1.v)) 39 (.int .i64 ((k49 : Nat) : Int))) 40 (.pointer (some ⟨b58, o59 + k49 * 1, none⟩))) 41 (.int .i64 v61)) 42 (.bool (decide ((1 : Int) ≤ v61)))) ∧ w.heap[b1]? = some (.cells #[.string (⟨#[]⟩ : ByteArray), .string (⟨#[]⟩ : ByteArray)] t_api_Merge (0, 0)) ∧ w.heap[b5]? = some (.cells #[.string l38, .string l39] t_api_Merge (0, 0)) ∧ w.heap[b78]? = some (.cells #[.string v69, .string v74] t_api_Merge (0, 0)) ∧ K151 j150 w) ?_ (fun _ w153 hM155 => ?_)
                ·
                  refine cw_region ?_
                  refine sl_v rfl (fa_api_Merge_0 (o' := 0) rfl rfl) ?_
                  refine sl_v rfl (ld_string rfl (cell_blk hB122 rfl)) ?_
                  refine sl_v rfl (fa_api_Merge_0 (o' := 0) rfl rfl) ?_
                  refine sl_v rfl (ld_string rfl (cell_blk hB121 rfl)) ?_
                  refine sl_op rfl (ok_call c_ref01_Less rfl (Calls.mono h (fun e156 w157 hq158 => ?_)))
                  clear h
                  obtain ⟨r160, he159, hk161, hk162, hk163, h⟩ := hq158
                  refine ⟨_, he159, ?_⟩
                  replace hB120 := hk161.trans hB120
                  replace hB121 := hk162.trans hB121
                  replace hB122 := hk163.trans hB122
                  replace hx : Ext w157 w157 := Chg.refl _
                  refine sl_v rfl (r_mv rfl) ?_
                  refine bcases (r160) (fun hb164 => ?_) (fun hb164 => ?_)
                  · replace h := h.1 hb164
                    refine sl_no rfl rfl rfl hb164 ?_
                    refine sl_no rfl rfl rfl hb164 ?_
                    refine sl_no rfl rfl rfl hb164 ?_
                    refine sl_no rfl rfl rfl hb164 ?_
                    refine sl_no rfl rfl rfl hb164 ?_
                    refine sl_no rfl rfl rfl hb164 ?_
                    refine sl_nu rfl rfl rfl ?_
                    refine sl_nu rfl rfl rfl ?_
                    refine sl_nu rfl rfl rfl ?_
                    refine sl_nu rfl rfl rfl ?_
                    refine sl_nu rfl rfl rfl ?_
                    refine sl_no rfl rfl rfl hb164 ?_
                    refine sl_v rfl (r_pt rfl hb164 rfl) ?_
                    refine sl_v rfl (r_as rfl) ?_
                    refine sl_nil ?_
                    exact ⟨_, true, (kp (kp (kp (kp (kp (kp (kp (kp (kp (kp (kp (kp (kp (kp (kp (kp (kp (kp (kp (kp (kn rfl) rfl) rfl) rfl) rfl) rfl) rfl) rfl) rfl) rfl) rfl) rfl) rfl) rfl) rfl) rfl) rfl) rfl) rfl) rfl) rfl), hB120, hB121, hB122, h⟩
                  · replace h := h.2 hb164
                    refine sl_vg rfl rfl rfl hb164 (fa_api_Merge_0 (o' := 0) rfl rfl) ?_
                    refine sl_vg rfl rfl rfl hb164 (ld_string rfl (cell_blk hB122 rfl)) ?_
                    refine sl_vg rfl rfl rfl hb164 (fa_api_Merge_0 (o' := 0) rfl rfl) ?_
                    refine sl_vg rfl rfl rfl hb164 (ld_string rfl (cell_blk hB121 rfl)) ?_
                    refine sl_vg rfl rfl rfl hb164 (s_eql rfl rfl) ?_
                    refine sl_vg rfl rfl rfl hb164 (r_mv rfl) ?_
                    refine bcases (decide (v69 = l38)) (fun hb165 => ?_) (fun hb165 => ?_)
                    · replace h := h.1 (of_decide_eq_true hb165)
                      refine sl_vg rfl rfl rfl hb165 (fa_api_Merge_1 (o' := 1) rfl rfl) ?_
                      refine sl_vg rfl rfl rfl hb165 (ld_string rfl (cell_blk hB122 rfl)) ?_
                      refine sl_vg rfl rfl rfl hb165 (fa_api_Merge_1 (o' := 1) rfl rfl) ?_
                      refine sl_vg rfl rfl rfl hb165 (ld_string rfl (cell_blk hB121 rfl)) ?_
                      refine sl_g rfl rfl rfl hb165 (ok_call c_ref01_Less rfl (Calls.mono h (fun e166 w167 hq168 => ?_)))
                      clear h
                      obtain ⟨r170, he169, hk171, hk172, hk173, h⟩ := hq168
                      refine ⟨_, he169, ?_⟩
                      replace hB120 := hk171.trans hB120
                      replace hB121 := hk172.trans hB121
                      replace hB122 := hk173.trans hB122
                      replace hx : Ext w167 w167 := Chg.refl _
                      refine sl_vg rfl rfl rfl hb164 (r_pt rfl hb165 rfl) ?_
                      refine sl_v rfl (r_pf rfl hb164 rfl) ?_
                      refine sl_v rfl (r_as rfl) ?_
                      refine sl_nil ?_
                      exact ⟨_, r170, (kp (kp (kp (kp (kp (kp (kp (kp (kp (kp (kp (kp (kp (kp (kp (kp (kp (kp (kp (kp (kn rfl) rfl) rfl) rfl) rfl) rfl) rfl) rfl) rfl) rfl) rfl) rfl) rfl) rfl) rfl) rfl) rfl) rfl) rfl) rfl) rfl), hB120, hB121, hB122, h⟩
                    · replace h := h.2 (of_decide_eq_false hb165)
                      refine sl_no rfl rfl rfl hb165 ?_
                      refine sl_no rfl rfl rfl hb165 ?_
                      refine sl_no rfl rfl rfl hb165 ?_
                      refine sl_no rfl rfl rfl hb165 ?_
                      refine sl_no rfl rfl rfl hb165 ?_
                      refine sl_vg rfl rfl rfl hb164 (r_pf rfl hb165 rfl) ?_
                      refine sl_v rfl (r_pf rfl hb164 rfl) ?_
                      refine sl_v rfl (r_as rfl) ?_
                      refine sl_nil ?_
                      exact ⟨_, false, (kp (kp (kp (kp (kp (kp (kp (kp (kp (kp (kp (kp (kp (kp (kp (kp (kp (kp (kp (kp (kn rfl) rfl) rfl) rfl) rfl) rfl) rfl) rfl) rfl) rfl) rfl) rfl) rfl) rfl) rfl) rfl) rfl) rfl) rfl) rfl) rfl), hB120, hB121, hB122, h⟩
                ·
                  obtain ⟨g154, j150, rfl, hB174, hB175, hB176, hM155⟩ := hM155
                  replace h := hK152 j150 w153 hM155
                  have hx : Ext w153 w153 := Chg.refl _
                  obtain ⟨K178, hK179, h⟩ := h
                  refine cw_mid (fun f w => ∃ (g : Env) (j177 : Bool), f = (upd (upd (upd (upd (upd (upd (upd (upd (upd (upd (upd (upd (upd (upd (upd (upd (upd (upd (upd (upd (nm g []) 0 (a0.v)) 1 (a1.v)) 4 (.pointer (some ⟨b1, 0, none⟩))) 6 (.pointer (some ⟨b5, 0, none⟩))) 7 (.int .i64 l35)) 8 (s133.v)) 9 (.int .i64 ((k49 : Nat) : Int))) 10 (.int .i64 ((k64 : Nat) : Int))) 11 (.pointer (some ⟨b78, 0, none⟩))) 14 (.int .i64 r146)) 22 (.int .i64 ((k49 : Nat) : Int))) 23 (a1.v)) 24 (.int .i64 ((a1.n : Nat) : Int))) 25 (.bool (decide (((k49 : Nat) : Int) < ((a1.n : Nat) : Int))))) 38 (a1.v)) 39 (.int .i64 ((k49 : Nat) : Int))) 40 (.pointer (some ⟨b58, o59 + k49 * 1, none⟩))) 41 (.int .i64 v61)) 42 (.bool (decide ((1 : Int) ≤ v61)))) 116 (.bool j177)) ∧ w.heap[b1]? = some (.cells #[.string (⟨#[]⟩ : ByteArray), .string (⟨#[]⟩ : ByteArray)] t_api_Merge (0, 0)) ∧ w.heap[b5]? = some (.cells #[.string l38, .string l39] t_api_Merge (0, 0)) ∧ w.heap[b78]? = some (.cells #[.string v69, .string v74] t_api_Merge (0, 0)) ∧ K178 j177 w) ?_ (fun _ w180 hM182 => ?_)
                  ·
                    refine cw_region ?_
                    refine sl_v rfl (r_mv rfl) ?_
                    refine sl_v rfl (r_mv rfl) ?_
                    refine sl_v rfl (r_gtr rfl rfl) ?_
                    refine sl_v rfl (r_mv rfl) ?_
                    refine bcases (decide (l35 < r146)) (fun hb183 => ?_) (fun hb183 => ?_)
                    · replace h := h.1 (of_decide_eq_true hb183)
                      refine sl_no rfl rfl rfl hb183 ?_
                      refine sl_no rfl rfl rfl hb183 ?_
                      refine sl_no rfl rfl rfl hb183 ?_
                      refine sl_no rfl rfl rfl hb183 ?_
                      refine sl_nu rfl rfl rfl ?_
                      refine sl_no rfl rfl rfl hb183 ?_
                      refine sl_v rfl (r_pt rfl hb183 rfl) ?_
                      refine sl_nil ?_
                      exact ⟨_, true, (kp (kp (kp (kp (kp (kp (kp (kp (kp (kp (kp (kp (kp (kp (kp (kp (kp (kp (kp (kp (kn rfl) rfl) rfl) rfl) rfl) rfl) rfl) rfl) rfl) rfl) rfl) rfl) rfl) rfl) rfl) rfl) rfl) rfl) rfl) rfl) rfl), hB174, hB175, hB176, h⟩
                    · replace h := h.2 (of_decide_eq_false hb183)
                      refine sl_vg rfl rfl rfl hb183 (r_mv rfl) ?_
                      refine sl_vg rfl rfl rfl hb183 (r_mv rfl) ?_
                      refine sl_vg rfl rfl rfl hb183 (r_eql rfl rfl) ?_
                      refine sl_vg rfl rfl rfl hb183 (r_mv rfl) ?_
                      refine bcases (decide (r146 = l35)) (fun hb184 => ?_) (fun hb184 => ?_)
                      · replace h := h.1 (of_decide_eq_true hb184)
                        refine sl_vg rfl rfl rfl hb184 (r_mv rfl) ?_
                        refine sl_vg rfl rfl rfl hb183 (r_pt rfl hb184 rfl) ?_
                        refine sl_v rfl (r_pf rfl hb183 rfl) ?_
                        refine sl_nil ?_
                        exact ⟨_, j150, (kp (kp (kp (kp (kp (kp (kp (kp (kp (kp (kp (kp (kp (kp (kp (kp (kp (kp (kp (kp (kn rfl) rfl) rfl) rfl) rfl) rfl) rfl) rfl) rfl) rfl) rfl) rfl) rfl) rfl) rfl) rfl) rfl) rfl) rfl) rfl) rfl), hB174, hB175, hB176, h⟩
                      · replace h := h.2 (of_decide_eq_false hb184)
                        refine sl_no rfl rfl rfl hb184 ?_
                        refine sl_vg rfl rfl rfl hb183 (r_pf rfl hb184 rfl) ?_
                        refine sl_v rfl (r_pf rfl hb183 rfl) ?_
                        refine sl_nil ?_
                        exact ⟨_, false, (kp (kp (kp (kp (kp (kp (kp (kp (kp (kp (kp (kp (kp (kp (kp (kp (kp (kp (kp (kp (kn rfl) rfl) rfl) rfl) rfl) rfl) rfl) rfl) rfl) rfl) rfl) rfl) rfl) rfl) rfl) rfl) rfl) rfl) rfl) rfl) rfl), hB174, hB175, hB176, h⟩
                  ·
                    obtain ⟨g181, j177, rfl, hB185, hB186, hB187, hM182⟩ := hM182
                    replace h := hK179 j177 w180 hM182
                    have hx : Ext w180 w180 := Chg.refl _
                    refine bcases (j177) (fun hb188 => ?_) (fun hb188 => ?_)
                    · replace h := h.1 hb188
                      refine cw_ct rfl hb188 ?_
                      refine cw_region ?_
                      refine sl_v rfl (lda_api_Merge (vs := [.string v69, .string v74]) rfl rfl (.c (cell_blk hB187 rfl) (.c (cell_blk hB187 rfl) .n))) ?_
                      refine sl_v rfl (r_mv rfl) ?_
                      refine sl_op rfl (st_api_Merge (vs := [.string v69, .string v74]) rfl rfl rfl rfl rfl ⟨_, _, hB186, Nat.le_of_ble_eq_true rfl⟩ (fun w189 hw190 => ?_))
                      have hc_ := sto_chg hw190
                      replace hB185 := hc_.get hB185 hne8
                      replace hB187 := hc_.get hB187 hne82.symm
                      replace hB186 : w189.heap[b5]? = some (.cells #[.string v69, .string v74] t_api_Merge (0, 0)) := sto_blk hw190 hB186
                      replace h := h w189 (Chg.pre hx hc_)
                      replace hx : Ext w189 w189 := Chg.refl _
                      clear hc_
                      refine sl_v rfl (r_as rfl) ?_
                      refine sl_nil ?_
                      refine cw_region ?_
                      refine sl_v rfl (r_mv rfl) ?_
                      obtain ⟨z191, hz191, h⟩ := h
                      refine sl_v rfl (r_add rfl rfl hz191) ?_
                      refine sl_v rfl (r_as rfl) ?_
                      refine sl_nil ?_
                      exact ⟨(r146, s133, z191, v69, v74), _, (kp (kp (kp (kp (kp (kp (kp (kp (kp (kp (kp (kp (kn rfl) rfl) rfl) rfl) rfl) rfl) rfl) rfl) rfl) rfl) rfl) rfl) rfl), ⟨hB185, hB186, h.1⟩, h.2⟩
                    · replace h := h.2 hb188
                      refine cw_cf rfl hb188 ?_
                      refine cw_skip ?_
                      refine cw_region ?_
                      refine sl_v rfl (r_mv rfl) ?_
                      obtain ⟨z192, hz192, h⟩ := h
                      refine sl_v rfl (r_add rfl rfl hz192) ?_
                      refine sl_v rfl (r_as rfl) ?_
                      refine sl_nil ?_
                      exact ⟨(l35, s133, z192, l38, l39), _, (kp (kp (kp (kp (kp (kp (kp (kp (kp (kp (kp (kp (kn rfl) rfl) rfl) rfl) rfl) rfl) rfl) rfl) rfl) rfl) rfl) rfl) rfl), ⟨hB185, hB186, h.1⟩, h.2⟩
          · replace h := h.2 (of_decide_eq_false hb63)
            refine cw_cf rfl hb63 ?_
            refine cw_exit ?_
            refine cw_region ?_
            refine sl_v rfl (r_mv rfl) ?_
            obtain ⟨z193, hz193, h⟩ := h
            refine sl_v rfl (r_add rfl rfl hz193) ?_
            refine sl_v rfl (r_as rfl) ?_
            refine sl_nil ?_
            exact ⟨(l35, l36, z193, l38, l39), _, (kp (kp (kp (kp (kp (kp (kp (kn rfl) rfl) rfl) rfl) rfl) rfl) rfl) rfl), ⟨hB46, hB47, h.1⟩, h.2⟩
        · replace h := h.2 (of_decide_eq_false hb56)
          refine sl_no rfl rfl rfl hb56 ?_
          refine sl_no rfl rfl rfl hb56 ?_
          refine sl_no rfl rfl rfl hb56 ?_
          refine sl_no rfl rfl rfl hb56 ?_
          refine sl_no rfl rfl rfl hb56 ?_
          refine sl_v rfl (r_pf rfl hb56 rfl) ?_
          refine sl_nil ?_
          refine cw_cf rfl rfl ?_
          refine cw_exit ?_
          refine cw_region ?_
          refine sl_v rfl (r_mv rfl) ?_
          obtain ⟨z194, hz194, h⟩ := h
          refine sl_v rfl (r_add rfl rfl hz194) ?_
          refine sl_v rfl (r_as rfl) ?_
          refine sl_nil ?_
          exact ⟨(l35, l36, z194, l38, l39), _, (kp (kp (kp (kp (kp (kp (kp (kn rfl) rfl) rfl) rfl) rfl) rfl) rfl) rfl), ⟨hB46, hB47, h.1⟩, h.2⟩
      · replace h := h.2 (of_decide_eq_false hb34)
        refine cw_cf rfl hb34 ?_
        refine cw_exit ?_
        exact ⟨_, l20, l23, l24, (kp (kp (kp (kn rfl) rfl) rfl) rfl), hB31, hB32, h⟩
    · replace h := h.2 (of_decide_eq_false hb33)
      refine sl_no rfl rfl rfl hb33 ?_
      refine sl_no rfl rfl rfl hb33 ?_
      refine sl_no rfl rfl rfl hb33 ?_
      refine sl_no rfl rfl rfl hb33 ?_
      refine sl_v rfl (r_pf rfl hb33 rfl) ?_
      refine sl_nil ?_
      refine cw_cf rfl rfl ?_
      refine cw_exit ?_
      exact ⟨_, l20, l23, l24, (kp (kp (kp (kn rfl) rfl) rfl) rfl), hB31, hB32, h⟩
  ·
    obtain ⟨g18, j12, j13, j14, rfl, hB195, hB196, hM19⟩ := hM19
    replace h := hK16 j12 j13 j14 w17 hM19
    have hx : Ext w17 w17 := Chg.refl _
    refine cw_seq ?_
    refine cw_region ?_
    refine sl_v rfl (lda_api_Merge (vs := [.string j13, .string j14]) rfl rfl (.c (cell_blk hB196 rfl) (.c (cell_blk hB196 rfl) .n))) ?_
    refine sl_v rfl (r_mv rfl) ?_
    refine sl_op rfl (st_api_Merge (vs := [.string j13, .string j14]) rfl rfl rfl rfl rfl ⟨_, _, hB195, Nat.le_of_ble_eq_true rfl⟩ (fun w197 hw198 => ?_))
    have hc_ := sto_chg hw198
    replace hB196 := hc_.get hB196 hne8.symm
    replace hB195 : w197.heap[b1]? = some (.cells #[.string j13, .string j14] t_api_Merge (0, 0)) := sto_blk hw198 hB195
    replace h := h w197 (Chg.pre hx hc_)
    replace hx : Ext w197 w197 := Chg.refl _
    clear hc_
    refine sl_v rfl (r_as rfl) ?_
    refine sl_nil ?_
    refine cw_ret ?_
    exact rs_2 (rc (vs := [.string j13, .string j14]) Try.underlying70 rfl i_api_Merge rfl rfl (.c (cell_blk hB195 rfl) (.c (cell_blk hB195 rfl) .n))) (rt rfl) ⟨j13, j14, j12, rfl, h⟩
def VC_ref16_Join (a0 : Sl) (a1_0 : ByteArray) (a1_1 : ByteArray) (R : Sl → World → Prop) (w : World) : Prop :=
  ∀ (b1 : Nat) (w2 : World), Priv w b1 w2 → (∃ (I7 : Sl → Int → World → Prop) (μ8 : Sl → Int → World → Nat), I7 (⟨none, 0, 0⟩ : Sl) 0 w2 ∧ ∀ (l5 : Sl) (l6 : Int) (w10 : World), I7 l5 l6 w10 → ((l6 < ((a0.n : Nat) : Int) → (∃ K16 : Bool → World → Prop, (∀ (j15 : Bool) (w18 : World), K16 j15 w18 → ((j15 = true → (a1_0.size + a1_1.size ≤ 9223372036854775807 ∧ (∃ xs53 : List Value, Own w18 t_string 1 l5 xs53 ∧ ((l5.n + 1) * 16 ≤ 140737488355328 ∧ l5.n + 1 ≤ maxLen) ∧ (l5.blk ≠ some b1 ∧ (∀ (s50 : Sl) (w49 : World), App w18 t_string 1 l5 xs53 1 [.string (a1_0 ++ a1_1)] s50 w49 → (∃ z57 : Int, z57 = IntKind.wrap .i64 (l6 + 2) ∧ (I7 s50 z57 w49 ∧ μ8 s50 z57 w49 < μ8 l5 l6 w10))))))) ∧ (j15 = false → (∃ k58 : Nat, l6 = ((k58 : Nat) : Int) ∧ k58 < a0.n ∧ (∃ (b60 o61 : Nat), a0.b = some ⟨b60, o61, none⟩ ∧ (∃ v63 : ByteArray, w18.cell? ⟨b60, o61 + k58 * 1, none⟩ = some (.string v63) ∧ (∃ xs74 : List Value, Own w18 t_string 1 l5 xs74 ∧ ((l5.n + 1) * 16 ≤ 140737488355328 ∧ l5.n + 1 ≤ maxLen) ∧ (l5.blk ≠ some b1 ∧ (∀ (s71 : Sl) (w70 : World), App w18 t_string 1 l5 xs74 1 [.string v63] s71 w70 → (∃ z78 : Int, z78 = IntKind.wrap .i64 (((k58 : Nat) : Int) + 1) ∧ (I7 s71 z78 w70 ∧ μ8 s71 z78 w70 < μ8 l5 l6 w10))))))))))) ∧ (∃ z23 : Int, z23 = IntKind.wrap .i64 (l6 + 1) ∧ ((z23 < ((a0.n : Nat) : Int) → (∃ k25 : Nat, l6 = ((k25 : Nat) : Int) ∧ k25 < a0.n ∧ (∃ (b27 o28 : Nat), a0.b = some ⟨b27, o28, none⟩ ∧ (∃ v30 : ByteArray, w10.cell? ⟨b27, o28 + k25 * 1, none⟩ = some (.string v30) ∧ ((v30 = a1_0 → (∃ z33 : Int, z33 = IntKind.wrap .i64 (((k25 : Nat) : Int) + 1) ∧ (∃ k34 : Nat, z33 = ((k34 : Nat) : Int) ∧ k34 < a0.n ∧ (∃ v36 : ByteArray, w10.cell? ⟨b27, o28 + k34 * 1, none⟩ = some (.string v36) ∧ (∀ w21 : World, Ext w10 w21 → (K16 (decide (v36 = a1_1)) w21)))))) ∧ (¬ (v30 = a1_0) → (∀ w21 : World, Ext w10 w21 → (K16 false w21)))))))) ∧ (¬ (z23 < ((a0.n : Nat) : Int)) → (∀ w21 : World, Ext w10 w21 → (K16 false w21))))))) ∧ (¬ (l6 < ((a0.n : Nat) : Int)) → (R l5 w10))))
set_option maxRecDepth 100000 in
theorem vc_ref16_Join {a0 : Sl} {a1_0 : ByteArray} {a1_1 : ByteArray} {R : Sl → World → Prop} {w : World} (h : VC_ref16_Join a0 a1_0 a1_1 R w) : Calls PP n_ref16_Join #[a0.v, .agg #[.string a1_0, .string a1_1]] w fun e w' => ∃ r0 : Sl, e = .returned (r0.v) ∧ R r0 w' := by
  refine Calls.mono (calls_of_cw (n := 55) (rs := #[.tmp 4]) (args := [a0.v, .agg #[.string a1_0, .string a1_1]]) (R := fun v w' => ∃ r0 : Sl, v = r0.v ∧ R r0 w') Try.func51 rfl rfl (Nat.le_of_ble_eq_true rfl) rfl ?_) ?_
  case refine_2 => rintro e w' ⟨v, rfl, hr⟩; obtain ⟨r0, rfl, hr⟩ := hr; exact ⟨r0, rfl, hr⟩
  have hx : Ext w w := Chg.refl _
  unfold VC_ref16_Join at h
  refine cw_seq ?_
  refine cw_region ?_
  refine sl_op rfl (bx_api_Merge rfl rfl (fun b1 w2 hN3 => ?_))
  have hB4 := hN3.here
  replace h := h b1 w2 ⟨hx.tr hN3.ext, Nat.le_trans hx.size hN3.fresh, lt_of_blk hN3.here⟩
  replace hx : Ext w2 w2 := Chg.refl _
  refine sl_v rfl (r_as rfl) ?_
  refine sl_nil ?_
  refine cw_seq ?_
  refine cw_region ?_
  refine sl_v rfl (r_as rfl) ?_
  refine sl_nil ?_
  refine cw_seq ?_
  refine cw_region ?_
  refine sl_v rfl (r_as rfl) ?_
  refine sl_nil ?_
  refine cw_seq ?_
  refine cw_block ?_
  obtain ⟨I7, μ8, hI9, h⟩ := h
  refine cw_loop (σ := Sl × Int) (fun s g => (upd (upd (upd (upd (nm g []) 0 (a0.v)) 3 (.pointer (some ⟨b1, 0, none⟩))) 5 (s.1.v)) 6 (.int .i64 s.2))) (fun s w => w.heap[b1]? = some (.cells #[.string a1_0, .string a1_1] t_api_Merge (0, 0)) ∧ I7 s.1 s.2 w) (fun s w => μ8 s.1 s.2 w) ((⟨none, 0, 0⟩ : Sl), 0) _ (kp (kp (kp (kp (kn rfl) rfl) rfl) rfl) rfl) ⟨hB4, hI9⟩ ?_
  rintro ⟨l5, l6⟩ g11 w10 ⟨hB13, hi12⟩
  replace h := h l5 l6 w10 hi12
  have hx : Ext w10 w10 := Chg.refl _
  change CW _ PP _ _ _ (upd (upd (upd (upd (nm g11 []) 0 (a0.v)) 3 (.pointer (some ⟨b1, 0, none⟩))) 5 (l5.v)) 6 (.int .i64 l6)) _
  refine cw_seq ?_
  refine cw_seq ?_
  refine cw_region ?_
  refine sl_v rfl (r_mv rfl) ?_
  refine sl_v rfl (r_mv rfl) ?_
  refine sl_v rfl (r_len_l (s := a0) rfl rfl Try.underlying37) ?_
  refine sl_v rfl (r_lss rfl rfl) ?_
  refine sl_nil ?_
  refine bcases (decide (l6 < ((a0.n : Nat) : Int))) (fun hb14 => ?_) (fun hb14 => ?_)
  · replace h := h.1 (of_decide_eq_true hb14)
    refine cw_ct rfl hb14 ?_
    refine cw_skip ?_
    refine cw_block ?_
    obtain ⟨K16, hK17, h⟩ := h
    refine cw_mid (fun f w => ∃ (g : Env) (j15 : Bool), f = (upd (upd (upd (upd (upd (nm g []) 0 (a0.v)) 3 (.pointer (some ⟨b1, 0, none⟩))) 5 (l5.v)) 6 (.int .i64 l6)) 34 (.bool j15)) ∧ w.heap[b1]? = some (.cells #[.string a1_0, .string a1_1] t_api_Merge (0, 0)) ∧ K16 j15 w) ?_ (fun _ w18 hM20 => ?_)
    ·
      refine cw_still mo (by kernel_rfl) (fun w21 hd22 => ?_)
      replace hB13 := (Ext.of_drew hd22).get hB13
      replace hx := hx.tr (Ext.of_drew hd22)
      refine st_v rfl (r_mv rfl) ?_
      obtain ⟨z23, hz23, h⟩ := h
      refine st_v rfl (r_add rfl rfl hz23) ?_
      refine st_v rfl (r_mv rfl) ?_
      refine st_v rfl (r_len_l (s := a0) rfl rfl Try.underlying37) ?_
      refine st_v rfl (r_lss rfl rfl) ?_
      refine st_v rfl (r_mv rfl) ?_
      refine bcases (decide (z23 < ((a0.n : Nat) : Int))) (fun hb24 => ?_) (fun hb24 => ?_)
      · replace h := h.1 (of_decide_eq_true hb24)
        refine st_vg rfl rfl rfl hb24 (r_mv rfl) ?_
        refine st_vg rfl rfl rfl hb24 (r_mv rfl) ?_
        obtain ⟨k25, rfl, hk26, h⟩ := h
        obtain ⟨b27, o28, hb29, h⟩ := h
        refine st_vg rfl rfl rfl hb24 (ia_sl_string (s := a0) (j := k25) (o' := o28 + k25 * 1) rfl rfl hk26 hb29 rfl) ?_
        obtain ⟨v30, hc31, h⟩ := h
        refine st_vg rfl rfl rfl hb24 (ld_string rfl (hx.cell hc31)) ?_
        refine st_vg rfl rfl rfl hb24 (fa_api_Merge_0 (o' := 0) rfl rfl) ?_
        refine st_vg rfl rfl rfl hb24 (ld_string rfl (cell_blk hB13 rfl)) ?_
        refine st_vg rfl rfl rfl hb24 (s_eql rfl rfl) ?_
        refine st_v rfl (r_pt rfl hb24 rfl) ?_
        refine st_v rfl (r_mv rfl) ?_
        refine bcases (decide (v30 = a1_0)) (fun hb32 => ?_) (fun hb32 => ?_)
        · replace h := h.1 (of_decide_eq_true hb32)
          refine st_vg rfl rfl rfl hb32 (r_mv rfl) ?_
          refine st_vg rfl rfl rfl hb32 (r_mv rfl) ?_
          obtain ⟨z33, hz33, h⟩ := h
          refine st_vg rfl rfl rfl hb32 (r_add rfl rfl hz33) ?_
          obtain ⟨k34, rfl, hk35, h⟩ := h
          refine st_vg rfl rfl rfl hb32 (ia_sl_string (s := a0) (j := k34) (o' := o28 + k34 * 1) rfl rfl hk35 hb29 rfl) ?_
          obtain ⟨v36, hc37, h⟩ := h
          refine st_vg rfl rfl rfl hb32 (ld_string rfl (hx.cell hc37)) ?_
          refine st_vg rfl rfl rfl hb32 (fa_api_Merge_1 (o' := 1) rfl rfl) ?_
          refine st_vg rfl rfl rfl hb32 (ld_string rfl (cell_blk hB13 rfl)) ?_
          refine st_vg rfl rfl rfl hb32 (s_eql rfl rfl) ?_
          refine st_v rfl (r_pt rfl hb32 rfl) ?_
          refine st_nil ?_
          replace h := h _ hx
          replace hx : Ext w21 w21 := Chg.refl _
          exact ⟨_, decide (v36 = a1_1), (kp (kp (kp (kp (kp (kn rfl) rfl) rfl) rfl) rfl) rfl), hB13, h⟩
        · replace h := h.2 (of_decide_eq_false hb32)
          refine st_no rfl rfl rfl hb32 ?_
          refine st_no rfl rfl rfl hb32 ?_
          refine st_no rfl rfl rfl hb32 ?_
          refine st_no rfl rfl rfl hb32 ?_
          refine st_no rfl rfl rfl hb32 ?_
          refine st_no rfl rfl rfl hb32 ?_
          refine st_no rfl rfl rfl hb32 ?_
          refine st_no rfl rfl rfl hb32 ?_
          refine st_v rfl (r_pf rfl hb32 rfl) ?_
          refine st_nil ?_
          replace h := h _ hx
          replace hx : Ext w21 w21 := Chg.refl _
          exact ⟨_, false, (kp (kp (kp (kp (kp (kn rfl) rfl) rfl) rfl) rfl) rfl), hB13, h⟩
      · replace h := h.2 (of_decide_eq_false hb24)
        refine st_no rfl rfl rfl hb24 ?_
        refine st_no rfl rfl rfl hb24 ?_
        refine st_no rfl rfl rfl hb24 ?_
        refine st_no rfl rfl rfl hb24 ?_
        refine st_no rfl rfl rfl hb24 ?_
        refine st_no rfl rfl rfl hb24 ?_
        refine st_no rfl rfl rfl hb24 ?_
        refine st_v rfl (r_pf rfl hb24 rfl) ?_
        refine st_v rfl (r_mv rfl) ?_
        refine st_no rfl rfl rfl rfl ?_
        refine st_no rfl rfl rfl rfl ?_
        refine st_no rfl rfl rfl rfl ?_
        refine st_no rfl rfl rfl rfl ?_
        refine st_no rfl rfl rfl rfl ?_
        refine st_no rfl rfl rfl rfl ?_
        refine st_no rfl rfl rfl rfl ?_
        refine st_no rfl rfl rfl rfl ?_
        refine st_v rfl (r_pf rfl rfl rfl) ?_
        refine st_nil ?_
        replace h := h _ hx
        replace hx : Ext w21 w21 := Chg.refl _
        exact ⟨_, false, (kp (kp (kp (kp (kp (kn rfl) rfl) rfl) rfl) rfl) rfl), hB13, h⟩
    ·
      obtain ⟨g19, j15, rfl, hB41, hM20⟩ := hM20
      replace h := hK17 j15 w18 hM20
      have hx : Ext w18 w18 := Chg.refl _
      refine bcases (j15) (fun hb42 => ?_) (fun hb42 => ?_)
      · replace h := h.1 hb42
        refine cw_ct rfl hb42 ?_
        refine cw_seq ?_
        refine cw_region ?_
        refine sl_v rfl (r_mv rfl) ?_
        refine sl_v rfl (fa_api_Merge_0 (o' := 0) rfl rfl) ?_
        refine sl_v rfl (ld_string rfl (cell_blk hB41 rfl)) ?_
        refine sl_v rfl (fa_api_Merge_1 (o' := 1) rfl rfl) ?_
        refine sl_v rfl (ld_string rfl (cell_blk hB41 rfl)) ?_
        obtain ⟨hs43, h⟩ := h
        refine sl_v rfl (s_cat rfl rfl hs43) ?_
        refine sl_op rfl (bs_sl_string (len := 1) (vs := [(0, .string (a1_0 ++ a1_1))]) (cs := #[.string (a1_0 ++ a1_1)]) (by decide) rfl rfl (fun b44 w45 hN46 => ?_))
        have hne47 : b1 ≠ b44 := Nat.ne_of_lt (Nat.lt_of_lt_of_le (lt_of_blk hB41) hN46.fresh)
        replace hB41 := hN46.ext.get hB41
        have hB48 := hN46.here
        replace hx := hx.tr hN46.ext
        obtain ⟨xs53, ho54, hb55, h⟩ := h
        obtain ⟨hn56, h⟩ := h
        refine sl_op rfl (ap_sl_string (s := l5) (xs := xs53) (m := 1) (news := [.string (a1_0 ++ a1_1)]) rfl rfl hx ho54 (.c (cell_blk hB48 rfl) .n) rfl rfl hb55 (fun s50 w49 ha51 hc52 => ?_))
        replace hB41 := hc52.get hB41 hn56
        replace h := h s50 w49 ha51
        replace hx : Ext w49 w49 := Chg.refl _
        refine sl_v rfl (r_as rfl) ?_
        refine sl_nil ?_
        refine cw_region ?_
        refine sl_v rfl (r_mv rfl) ?_
        obtain ⟨z57, hz57, h⟩ := h
        refine sl_v rfl (r_add rfl rfl hz57) ?_
        refine sl_v rfl (r_as rfl) ?_
        refine sl_nil ?_
        exact ⟨(s50, z57), _, (kp (kp (kp (kp (kn rfl) rfl) rfl) rfl) rfl), ⟨hB41, h.1⟩, h.2⟩
      · replace h := h.2 hb42
        refine cw_cf rfl hb42 ?_
        refine cw_seq ?_
        refine cw_region ?_
        refine sl_v rfl (r_mv rfl) ?_
        refine sl_v rfl (r_mv rfl) ?_
        refine sl_v rfl (r_mv rfl) ?_
        obtain ⟨k58, rfl, hk59, h⟩ := h
        obtain ⟨b60, o61, hb62, h⟩ := h
        refine sl_v rfl (ia_sl_string (s := a0) (j := k58) (o' := o61 + k58 * 1) rfl rfl hk59 hb62 rfl) ?_
        obtain ⟨v63, hc64, h⟩ := h
        refine sl_v rfl (ld_string rfl hc64) ?_
        refine sl_op rfl (bs_sl_string (len := 1) (vs := [(0, .string v63)]) (cs := #[.string v63]) (by decide) rfl rfl (fun b65 w66 hN67 => ?_))
        have hne68 : b1 ≠ b65 := Nat.ne_of_lt (Nat.lt_of_lt_of_le (lt_of_blk hB41) hN67.fresh)
        replace hB41 := hN67.ext.get hB41
        have hB69 := hN67.here
        replace hx := hx.tr hN67.ext
        obtain ⟨xs74, ho75, hb76, h⟩ := h
        obtain ⟨hn77, h⟩ := h
        refine sl_op rfl (ap_sl_string (s := l5) (xs := xs74) (m := 1) (news := [.string v63]) rfl rfl hx ho75 (.c (cell_blk hB69 rfl) .n) rfl rfl hb76 (fun s71 w70 ha72 hc73 => ?_))
        replace hB41 := hc73.get hB41 hn77
        replace h := h s71 w70 ha72
        replace hx : Ext w70 w70 := Chg.refl _
        refine sl_v rfl (r_as rfl) ?_
        refine sl_nil ?_
        refine cw_region ?_
        refine sl_v rfl (r_mv rfl) ?_
        obtain ⟨z78, hz78, h⟩ := h
        refine sl_v rfl (r_add rfl rfl hz78) ?_
        refine sl_v rfl (r_as rfl) ?_
        refine sl_nil ?_
        exact ⟨(s71, z78), _, (kp (kp (kp (kp (kn rfl) rfl) rfl) rfl) rfl), ⟨hB41, h.1⟩, h.2⟩
  · replace h := h.2 (of_decide_eq_false hb14)
    refine cw_cf rfl hb14 ?_
    refine cw_exit ?_
    refine cw_seq ?_
    refine cw_region ?_
    refine sl_v rfl (r_mv rfl) ?_
    refine sl_v rfl (r_as rfl) ?_
    refine sl_nil ?_
    refine cw_ret ?_
    exact rs_1 (rt rfl) ⟨l5, rfl, h⟩

def VC_sym_New (R : Option Addr → World → Prop) (w : World) : Prop :=
  ∀ (b1 : Nat) (w2 : World), New w b1 (.cells #[.slice none 0 0, .map none] t_sym_Table (0, 0)) w2 → (R (some ⟨b1, 0, none⟩) w2)
set_option maxRecDepth 100000 in
theorem vc_sym_New {R : Option Addr → World → Prop} {w : World} (h : VC_sym_New R w) : Calls PP n_sym_New #[] w fun e w' => ∃ r0 : Option Addr, e = .returned (.pointer r0) ∧ R r0 w' := by
  refine Calls.mono (calls_of_cw (n := 3) (rs := #[.tmp 0]) (args := []) (R := fun v w' => ∃ r0 : Option Addr, v = .pointer r0 ∧ R r0 w') Try.func52 rfl rfl (Nat.le_of_ble_eq_true rfl) rfl ?_) ?_
  case refine_2 => rintro e w' ⟨v, rfl, hr⟩; obtain ⟨r0, rfl, hr⟩ := hr; exact ⟨r0, rfl, hr⟩
  have hx : Ext w w := Chg.refl _
  unfold VC_sym_New at h
  refine cw_seq ?_
  refine cw_region ?_
  refine sl_v rfl (r_as rfl) ?_
  refine sl_nil ?_
  refine cw_seq ?_
  refine cw_region ?_
  refine sl_v rfl (bd_sym_Table (vs := []) (cs := #[.slice none 0 0, .map none]) rfl rfl) ?_
  refine sl_op rfl (bx_sym_Table rfl rfl (fun b1 w2 hN3 => ?_))
  replace h := h b1 w2 hN3
  replace hx : Ext w2 w2 := Chg.refl _
  refine sl_v rfl (r_as rfl) ?_
  refine sl_nil ?_
  refine cw_ret ?_
  exact rs_1 (rt rfl) ⟨some ⟨b1, 0, none⟩, rfl, h⟩

def VC_sym_Table_Find (a0 : Option Addr) (a1 : ByteArray) (R : Int → Bool → World → Prop) (w : World) : Prop :=
  (a0 = none → (R 0 false w)) ∧ (¬ (a0 = none) → ((((a1.size : Nat) : Int) = (1 : Int) → (0 < a1.size ∧ (∃ z4 : Int, z4 = IntKind.wrap .i64 (((a1.data.toList.getD 0 0).toNat : Nat) : Int) ∧ (R z4 true w)))) ∧ (¬ (((a1.size : Nat) : Int) = (1 : Int)) → (∃ (b5 o6 : Nat), a0 = some ⟨b5, o6, none⟩ ∧ (∃ v7 : Option Nat, w.cell? ⟨b5, o6 + 1, none⟩ = some (.map v7) ∧ (∃ es9 : List (ByteArray × Int), Mp strV intV w v7 es9 ∧ (∃ z11 : Int, z11 = (mget a1 es9).getD 0 ∧ (R z11 ((mget a1 es9).isSome) w))))))))
set_option maxRecDepth 100000 in
theorem vc_sym_Table_Find {a0 : Option Addr} {a1 : ByteArray} {R : Int → Bool → World → Prop} {w : World} (h : VC_sym_Table_Find a0 a1 R w) : Calls PP n_sym_Table_Find #[.pointer a0, .string a1] w fun e w' => ∃ r0 : Int, ∃ r1 : Bool, e = .returned (.tuple #[.int .i64 r0, .bool r1]) ∧ R r0 r1 w' := by
  refine Calls.mono (calls_of_cw (n := 29) (rs := #[.tmp 4, .tmp 5]) (args := [.pointer a0, .string a1]) (R := fun v w' => ∃ r0 : Int, ∃ r1 : Bool, v = .tuple #[.int .i64 r0, .bool r1] ∧ R r0 r1 w') Try.func53 rfl rfl (Nat.le_of_ble_eq_true rfl) rfl ?_) ?_
  case refine_2 => rintro e w' ⟨v, rfl, hr⟩; obtain ⟨r0, r1, rfl, hr⟩ := hr; exact ⟨r0, r1, rfl, hr⟩
  have hx : Ext w w := Chg.refl _
  unfold VC_sym_Table_Find at h
  refine cw_seq ?_
  refine cw_region ?_
  refine sl_v rfl (r_as rfl) ?_
  refine sl_v rfl (r_as rfl) ?_
  refine sl_nil ?_
  refine cw_seq ?_
  refine cw_block ?_
  refine cw_seq ?_
  refine cw_region ?_
  refine sl_v rfl (r_mv rfl) ?_
  refine sl_v rfl (p_eqn rfl rfl Try.underlying86) ?_
  refine sl_v rfl (r_as rfl) ?_
  refine sl_nil ?_
  refine bcases (decide (a0 = none)) (fun hb1 => ?_) (fun hb1 => ?_)
  · replace h := h.1 (of_decide_eq_true hb1)
    refine cw_ct rfl hb1 ?_
    refine cw_seq ?_
    refine cw_region ?_
    refine sl_v rfl (r_as rfl) ?_
    refine sl_v rfl (r_as rfl) ?_
    refine sl_nil ?_
    refine cw_ret ?_
    exact rs_2 (rt rfl) (rt rfl) ⟨0, false, rfl, h⟩
  · replace h := h.2 (of_decide_eq_false hb1)
    refine cw_cf rfl hb1 ?_
    refine cw_seq ?_
    refine cw_region ?_
    refine sl_v rfl (r_mv rfl) ?_
    refine sl_v rfl (r_len_s rfl rfl Try.underlying9) ?_
    refine sl_v rfl (r_eql rfl rfl) ?_
    refine sl_v rfl (r_as rfl) ?_
    refine sl_nil ?_
    refine bcases (decide (((a1.size : Nat) : Int) = (1 : Int))) (fun hb2 => ?_) (fun hb2 => ?_)
    · replace h := h.1 (of_decide_eq_true hb2)
      refine cw_ct rfl hb2 ?_
      refine cw_seq ?_
      refine cw_region ?_
      refine sl_v rfl (r_mv rfl) ?_
      obtain ⟨hk3, h⟩ := h
      refine sl_v rfl (r_ix (j := 0) rfl rfl Try.underlying9 hk3) ?_
      obtain ⟨z4, hz4, h⟩ := h
      refine sl_v rfl (r_ci (z := z4) rfl Try.underlying5 Try.underlying3 hz4) ?_
      refine sl_v rfl (r_as rfl) ?_
      refine sl_v rfl (r_as rfl) ?_
      refine sl_nil ?_
      refine cw_ret ?_
      exact rs_2 (rt rfl) (rt rfl) ⟨z4, true, rfl, h⟩
    · replace h := h.2 (of_decide_eq_false hb2)
      refine cw_cf rfl hb2 ?_
      refine cw_skip ?_
      refine cw_seq ?_
      refine cw_region ?_
      refine sl_v rfl (r_mv rfl) ?_
      obtain ⟨b5, o6, rfl, h⟩ := h
      refine sl_v rfl (r_nc rfl) ?_
      refine sl_v rfl (fa_sym_Table_1 (o' := o6 + 1) rfl rfl) ?_
      obtain ⟨v7, hc8, h⟩ := h
      refine sl_v rfl (ld_map_string_int rfl hc8) ?_
      refine sl_v rfl (r_mv rfl) ?_
      obtain ⟨es9, hm10, h⟩ := h
      obtain ⟨z11, hz11, h⟩ := h
      refine sl_v rfl (RV.cast (v' := .tuple #[.int .i64 z11, .bool ((mget a1 es9).isSome)]) (by subst hz11; rfl) (lko_map_string_int (a := a1) rfl rfl hm10)) ?_
      refine sl_v rfl (r_mv rfl) ?_
      refine sl_v rfl (r_ex rfl rfl) ?_
      refine sl_v rfl (r_ex rfl rfl) ?_
      refine sl_v rfl (r_as rfl) ?_
      refine sl_v rfl (r_as rfl) ?_
      refine sl_nil ?_
      refine cw_seq ?_
      refine cw_region ?_
      refine sl_v rfl (r_mv rfl) ?_
      refine sl_v rfl (r_mv rfl) ?_
      refine sl_v rfl (r_as rfl) ?_
      refine sl_v rfl (r_as rfl) ?_
      refine sl_nil ?_
      refine cw_ret ?_
      exact rs_2 (rt rfl) (rt rfl) ⟨z11, (mget a1 es9).isSome, rfl, h⟩

end Go.Proofs.Ytchjcjocihckpaa.G
