/- What is to be shown of each function, and that it is enough. -/
import Derived.Test.YtchjcjocihckpaaTC
set_option linter.unusedVariables false
namespace Go.Proofs.Ytchjcjocihckpaa.G
open Go Go.RowKit
def VC_apply_Coder_Decode (a0 : Option Addr) (a1 : Sl) (R : ByteArray → Bool → World → Prop) (w : World) : Prop :=
  (a0 = none → (R (⟨#[]⟩ : ByteArray) false w)) ∧ (¬ (a0 = none) → (∀ (b2 : Nat) (w3 : World), New w b2 (.cells #[.pointer none, .slice none 0 0] t_strings_Builder (0, 0)) w3 → (∃ (I6 : Int → World → Prop) (μ7 : Int → World → Nat), I6 0 w3 ∧ ∀ (l5 : Int) (w9 : World), I6 l5 w9 → ((l5 < ((a1.n : Nat) : Int) → (∃ k13 : Nat, l5 = ((k13 : Nat) : Int) ∧ k13 < a1.n ∧ (∃ (b15 o16 : Nat), a1.b = some ⟨b15, o16, none⟩ ∧ (∃ v18 : Int, w9.cell? ⟨b15, o16 + k13 * 1, none⟩ = some (.int .i64 v18) ∧ (∃ (b20 o21 : Nat), a0 = some ⟨b20, o21, none⟩ ∧ (∃ v22 : Option Addr, w9.cell? ⟨b20, o21, none⟩ = some (.pointer v22) ∧ (Calls PP n_sym_Table_Text #[.pointer v22, .int .i64 v18] w9 (fun e w25 => ∃ r28_0 : ByteArray, ∃ r28_1 : Bool, e = .returned (.tuple #[.string r28_0, .bool r28_1]) ∧ ((r28_1 = true → (Calls PP n_strings_Builder_WriteString #[.pointer (some ⟨b2, 0, none⟩), .string r28_0] w25 (fun e w31 => ∃ r34_0 : Int, ∃ r34_1 : Value, e = .returned (.tuple #[.int .i64 r34_0, r34_1]) ∧ (∃ z35 : Int, z35 = IntKind.wrap .i64 (((k13 : Nat) : Int) + 1) ∧ (I6 z35 w31 ∧ μ7 z35 w31 < μ7 l5 w9))))) ∧ (r28_1 = false → (R (⟨#[]⟩ : ByteArray) false w25))))))))))) ∧ (¬ (l5 < ((a1.n : Nat) : Int)) → (Calls PP n_strings_Builder_String #[.pointer (some ⟨b2, 0, none⟩)] w9 (fun e w37 => ∃ r40 : ByteArray, e = .returned (.string r40) ∧ (R r40 true w37))))))))
set_option maxRecDepth 100000 in
theorem vc_apply_Coder_Decode {a0 : Option Addr} {a1 : Sl} {R : ByteArray → Bool → World → Prop} {w : World} (h : VC_apply_Coder_Decode a0 a1 R w) : Calls PP n_apply_Coder_Decode #[.pointer a0, a1.v] w fun e w' => ∃ r0 : ByteArray, ∃ r1 : Bool, e = .returned (.tuple #[.string r0, .bool r1]) ∧ R r0 r1 w' := by
  refine Calls.mono (calls_of_cw (n := 34) (rs := #[.tmp 4, .tmp 5]) (args := [.pointer a0, a1.v]) (R := fun v w' => ∃ r0 : ByteArray, ∃ r1 : Bool, v = .tuple #[.string r0, .bool r1] ∧ R r0 r1 w') Try.func31 rfl rfl (Nat.le_of_ble_eq_true rfl) rfl ?_) ?_
  case refine_2 => rintro e w' ⟨v, rfl, hr⟩; obtain ⟨r0, r1, rfl, hr⟩ := hr; exact ⟨r0, r1, rfl, hr⟩
  have hx : Ext w w := Chg.refl _
  unfold VC_apply_Coder_Decode at h
  refine cw_seq ?_
  refine cw_region ?_
  refine sl_v rfl (r_as rfl) ?_
  refine sl_v rfl (r_as rfl) ?_
  refine sl_nil ?_
  refine cw_seq ?_
  refine cw_seq ?_
  refine cw_region ?_
  refine sl_v rfl (r_mv rfl) ?_
  refine sl_v rfl (p_eqn rfl rfl Try.underlying50) ?_
  refine sl_nil ?_
  refine bcases (decide (a0 = none)) (fun hb1 => ?_) (fun hb1 => ?_)
  · replace h := h.1 (of_decide_eq_true hb1)
    refine cw_ct rfl hb1 ?_
    refine cw_seq ?_
    refine cw_region ?_
    refine sl_v rfl (r_as rfl) ?_
    refine sl_v rfl (r_as rfl) ?_
    refine sl_nil ?_
    refine cw_ret ?_
    exact rs_2 (rt rfl) (rt rfl) ⟨(⟨#[]⟩ : ByteArray), false, rfl, h⟩
  · replace h := h.2 (of_decide_eq_false hb1)
    refine cw_cf rfl hb1 ?_
    refine cw_skip ?_
    refine cw_seq ?_
    refine cw_region ?_
    refine sl_op rfl (al_strings_Builder rfl (fun b2 w3 hN4 => ?_))
    replace h := h b2 w3 hN4
    replace hx : Ext w3 w3 := Chg.refl _
    refine sl_nil ?_
    refine cw_seq ?_
    refine cw_seq ?_
    refine cw_region ?_
    refine sl_v rfl (r_mv rfl) ?_
    refine sl_v rfl (r_len_l (s := a1) rfl rfl Try.underlying58) ?_
    refine sl_v rfl (r_mv rfl) ?_
    refine sl_nil ?_
    refine cw_block ?_
    obtain ⟨I6, μ7, hI8, h⟩ := h
    refine cw_loop (σ := Int) (fun s g => (upd (upd (upd (upd (upd (nm g []) 0 (.pointer a0)) 6 (.pointer (some ⟨b2, 0, none⟩))) 13 (a1.v)) 14 (.int .i64 ((a1.n : Nat) : Int))) 15 (.int .i64 s))) (fun s w => I6 s w) (fun s w => μ7 s w) (0) _ (kp (kp (kp (kp (kp (kn rfl) rfl) rfl) rfl) rfl) rfl) hI8 ?_
    rintro l5 g10 w9 hi11
    replace h := h l5 w9 hi11
    have hx : Ext w9 w9 := Chg.refl _
    change CW _ PP _ _ _ (upd (upd (upd (upd (upd (nm g10 []) 0 (.pointer a0)) 6 (.pointer (some ⟨b2, 0, none⟩))) 13 (a1.v)) 14 (.int .i64 ((a1.n : Nat) : Int))) 15 (.int .i64 l5)) _
    refine cw_seq ?_
    refine cw_region ?_
    refine sl_v rfl (r_lss rfl rfl) ?_
    refine sl_nil ?_
    refine cw_seq ?_
    refine bcases (decide (l5 < ((a1.n : Nat) : Int))) (fun hb12 => ?_) (fun hb12 => ?_)
    · replace h := h.1 (of_decide_eq_true hb12)
      refine cw_ct rfl hb12 ?_
      refine cw_skip ?_
      refine cw_seq ?_
      refine cw_block ?_
      refine cw_seq ?_
      refine cw_region ?_
      obtain ⟨k13, rfl, hk14, h⟩ := h
      obtain ⟨b15, o16, hb17, h⟩ := h
      refine sl_v rfl (ia_sl_int (s := a1) (j := k13) (o' := o16 + k13 * 1) rfl rfl hk14 hb17 rfl) ?_
      obtain ⟨v18, hc19, h⟩ := h
      refine sl_v rfl (ld_int rfl hc19) ?_
      refine sl_v rfl (r_as rfl) ?_
      refine sl_nil ?_
      refine cw_seq ?_
      refine cw_region ?_
      refine sl_v rfl (r_mv rfl) ?_
      obtain ⟨b20, o21, rfl, h⟩ := h
      refine sl_v rfl (r_nc rfl) ?_
      refine sl_v rfl (fa_apply_Coder_0 (o' := o21) rfl rfl) ?_
      obtain ⟨v22, hc23, h⟩ := h
      refine sl_v rfl (ld_p_sym_Table rfl hc23) ?_
      refine sl_v rfl (r_mv rfl) ?_
      refine sl_op rfl (ok_call c_sym_Table_Text rfl (Calls.mono h (fun e24 w25 hq26 => ?_)))
      clear h
      obtain ⟨r28_0, r28_1, he27, h⟩ := hq26
      refine ⟨_, he27, ?_⟩
      replace hx : Ext w25 w25 := Chg.refl _
      refine sl_v rfl (r_mv rfl) ?_
      refine sl_v rfl (r_ex rfl rfl) ?_
      refine sl_v rfl (r_ex rfl rfl) ?_
      refine sl_v rfl (r_as rfl) ?_
      refine sl_v rfl (r_as rfl) ?_
      refine sl_nil ?_
      refine cw_seq ?_
      refine cw_seq ?_
      refine cw_region ?_
      refine sl_v rfl (r_mv rfl) ?_
      refine sl_v rfl (r_not rfl) ?_
      refine sl_nil ?_
      refine bcases (r28_1) (fun hb29 => ?_) (fun hb29 => ?_)
      · replace h := h.1 hb29
        refine cw_cf rfl (nt hb29) ?_
        refine cw_skip ?_
        refine cw_region ?_
        refine sl_v rfl (r_mv rfl) ?_
        refine sl_op rfl (ok_call c_strings_Builder_WriteString rfl (Calls.mono h (fun e30 w31 hq32 => ?_)))
        clear h
        obtain ⟨r34_0, r34_1, he33, h⟩ := hq32
        refine ⟨_, he33, ?_⟩
        replace hx : Ext w31 w31 := Chg.refl _
        refine sl_nil ?_
        refine cw_region ?_
        obtain ⟨z35, hz35, h⟩ := h
        refine sl_v rfl (r_add rfl rfl hz35) ?_
        refine sl_v rfl (r_mv rfl) ?_
        refine sl_nil ?_
        exact ⟨(z35), _, (kp (kp (kp (kp (kp (kn rfl) rfl) rfl) rfl) rfl) rfl), h.1, h.2⟩
      · replace h := h.2 hb29
        refine cw_ct rfl (nf hb29) ?_
        refine cw_seq ?_
        refine cw_region ?_
        refine sl_v rfl (r_as rfl) ?_
        refine sl_v rfl (r_as rfl) ?_
        refine sl_nil ?_
        refine cw_ret ?_
        exact rs_2 (rt rfl) (rt rfl) ⟨(⟨#[]⟩ : ByteArray), false, rfl, h⟩
    · replace h := h.2 (of_decide_eq_false hb12)
      refine cw_cf rfl hb12 ?_
      refine cw_exit ?_
      refine cw_seq ?_
      refine cw_region ?_
      refine sl_op rfl (ok_call c_strings_Builder_String rfl (Calls.mono h (fun e36 w37 hq38 => ?_)))
      clear h
      obtain ⟨r40, he39, h⟩ := hq38
      refine ⟨_, he39, ?_⟩
      replace hx : Ext w37 w37 := Chg.refl _
      refine sl_v rfl (r_as rfl) ?_
      refine sl_v rfl (r_as rfl) ?_
      refine sl_nil ?_
      refine cw_ret ?_
      exact rs_2 (rt rfl) (rt rfl) ⟨r40, true, rfl, h⟩

def VC_ref20_Decode (a0 : Sl) (a1 : Sl) (R : ByteArray → Bool → World → Prop) (w : World) : Prop :=
  ∃ (I3 : ByteArray → Int → World → Prop) (μ4 : ByteArray → Int → World → Nat), I3 (⟨#[]⟩ : ByteArray) 0 w ∧ ∀ (l1 : ByteArray) (l2 : Int) (w6 : World), I3 l1 l2 w6 → ((l2 < ((a1.n : Nat) : Int) → (∃ K11 : Bool → World → Prop, (∀ (j10 : Bool) (w13 : World), K11 j10 w13 → ((j10 = true → (R (⟨#[]⟩ : ByteArray) false w13)) ∧ (j10 = false → (∃ k26 : Nat, l2 = ((k26 : Nat) : Int) ∧ k26 < a1.n ∧ (∃ (b28 o29 : Nat), a1.b = some ⟨b28, o29, none⟩ ∧ (∃ v31 : Int, w13.cell? ⟨b28, o29 + k26 * 1, none⟩ = some (.int .i64 v31) ∧ ((v31 < (256 : Int) → (∃ z34 : Int, z34 = IntKind.wrap .u8 v31 ∧ (∃ q39 : UInt8, z34 = ((q39.toNat : Nat) : Int) ∧ (l1.size + (⟨#[q39]⟩ : ByteArray).size ≤ 9223372036854775807 ∧ (∃ z42 : Int, z42 = IntKind.wrap .i64 (((k26 : Nat) : Int) + 1) ∧ (∀ w36 : World, Ext w13 w36 → (I3 (l1 ++ (⟨#[q39]⟩ : ByteArray)) z42 w36 ∧ μ4 (l1 ++ (⟨#[q39]⟩ : ByteArray)) z42 w36 < μ4 l1 l2 w6))))))) ∧ (¬ (v31 < (256 : Int)) → (∃ z46 : Int, z46 = IntKind.wrap .i64 (v31 - 256) ∧ (∃ k47 : Nat, z46 = ((k47 : Nat) : Int) ∧ k47 < a0.n ∧ (∃ (b49 o50 : Nat), a0.b = some ⟨b49, o50, none⟩ ∧ (∃ v52 : ByteArray, w13.cell? ⟨b49, o50 + k47 * 2, none⟩ = some (.string v52) ∧ (l1.size + v52.size ≤ 9223372036854775807 ∧ (∃ z55 : Int, z55 = IntKind.wrap .i64 (v31 - 256) ∧ (∃ k56 : Nat, z55 = ((k56 : Nat) : Int) ∧ k56 < a0.n ∧ (∃ v58 : ByteArray, w13.cell? ⟨b49, o50 + k56 * 2 + 1, none⟩ = some (.string v58) ∧ ((l1 ++ v52).size + v58.size ≤ 9223372036854775807 ∧ (∃ z61 : Int, z61 = IntKind.wrap .i64 (((k26 : Nat) : Int) + 1) ∧ (∀ w44 : World, Ext w13 w44 → (I3 ((l1 ++ v52) ++ v58) z61 w44 ∧ μ4 ((l1 ++ v52) ++ v58) z61 w44 < μ4 l1 l2 w6)))))))))))))))))))) ∧ (∃ k16 : Nat, l2 = ((k16 : Nat) : Int) ∧ k16 < a1.n ∧ (∃ (b18 o19 : Nat), a1.b = some ⟨b18, o19, none⟩ ∧ (∃ v21 : Int, w6.cell? ⟨b18, o19 + k16 * 1, none⟩ = some (.int .i64 v21) ∧ ((v21 < (0 : Int) → (K11 true w6)) ∧ (¬ (v21 < (0 : Int)) → (∃ z24 : Int, z24 = IntKind.wrap .i64 (256 + ((a0.n : Nat) : Int)) ∧ (K11 (decide (z24 ≤ v21)) w6))))))))) ∧ (¬ (l2 < ((a1.n : Nat) : Int)) → (R l1 true w6)))
set_option maxRecDepth 100000 in
theorem vc_ref20_Decode {a0 : Sl} {a1 : Sl} {R : ByteArray → Bool → World → Prop} {w : World} (h : VC_ref20_Decode a0 a1 R w) : Calls PP n_ref20_Decode #[a0.v, a1.v] w fun e w' => ∃ r0 : ByteArray, ∃ r1 : Bool, e = .returned (.tuple #[.string r0, .bool r1]) ∧ R r0 r1 w' := by
  refine Calls.mono (calls_of_cw (n := 65) (rs := #[.tmp 4, .tmp 5]) (args := [a0.v, a1.v]) (R := fun v w' => ∃ r0 : ByteArray, ∃ r1 : Bool, v = .tuple #[.string r0, .bool r1] ∧ R r0 r1 w') Try.func32 rfl rfl (Nat.le_of_ble_eq_true rfl) rfl ?_) ?_
  case refine_2 => rintro e w' ⟨v, rfl, hr⟩; obtain ⟨r0, r1, rfl, hr⟩ := hr; exact ⟨r0, r1, rfl, hr⟩
  have hx : Ext w w := Chg.refl _
  unfold VC_ref20_Decode at h
  refine cw_seq ?_
  refine cw_region ?_
  refine sl_v rfl (r_as rfl) ?_
  refine sl_v rfl (r_as rfl) ?_
  refine sl_nil ?_
  refine cw_seq ?_
  refine cw_region ?_
  refine sl_v rfl (r_as rfl) ?_
  refine sl_nil ?_
  refine cw_seq ?_
  refine cw_seq ?_
  refine cw_region ?_
  refine sl_v rfl (r_as rfl) ?_
  refine sl_nil ?_
  refine cw_block ?_
  obtain ⟨I3, μ4, hI5, h⟩ := h
  refine cw_loop (σ := ByteArray × Int) (fun s g => (upd (upd (upd (upd (nm g []) 0 (a0.v)) 1 (a1.v)) 6 (.string s.1)) 7 (.int .i64 s.2))) (fun s w => I3 s.1 s.2 w) (fun s w => μ4 s.1 s.2 w) ((⟨#[]⟩ : ByteArray), 0) _ (kp (kp (kp (kp (kn rfl) rfl) rfl) rfl) rfl) hI5 ?_
  rintro ⟨l1, l2⟩ g7 w6 hi8
  replace h := h l1 l2 w6 hi8
  have hx : Ext w6 w6 := Chg.refl _
  change CW _ PP _ _ _ (upd (upd (upd (upd (nm g7 []) 0 (a0.v)) 1 (a1.v)) 6 (.string l1)) 7 (.int .i64 l2)) _
  refine cw_seq ?_
  refine cw_seq ?_
  refine cw_region ?_
  refine sl_v rfl (r_mv rfl) ?_
  refine sl_v rfl (r_mv rfl) ?_
  refine sl_v rfl (r_len_l (s := a1) rfl rfl Try.underlying58) ?_
  refine sl_v rfl (r_lss rfl rfl) ?_
  refine sl_nil ?_
  refine bcases (decide (l2 < ((a1.n : Nat) : Int))) (fun hb9 => ?_) (fun hb9 => ?_)
  · replace h := h.1 (of_decide_eq_true hb9)
    refine cw_ct rfl hb9 ?_
    refine cw_skip ?_
    refine cw_seq ?_
    refine cw_block ?_
    refine cw_seq ?_
    obtain ⟨K11, hK12, h⟩ := h
    refine cw_mid (fun f w => ∃ (g : Env) (j10 : Bool), f = (upd (upd (upd (upd (upd (nm g []) 0 (a0.v)) 1 (a1.v)) 6 (.string l1)) 7 (.int .i64 l2)) 28 (.bool j10)) ∧ K11 j10 w) ?_ (fun _ w13 hM15 => ?_)
    ·
      refine cw_region ?_
      refine sl_v rfl (r_mv rfl) ?_
      refine sl_v rfl (r_mv rfl) ?_
      obtain ⟨k16, rfl, hk17, h⟩ := h
      obtain ⟨b18, o19, hb20, h⟩ := h
      refine sl_v rfl (ia_sl_int (s := a1) (j := k16) (o' := o19 + k16 * 1) rfl rfl hk17 hb20 rfl) ?_
      obtain ⟨v21, hc22, h⟩ := h
      refine sl_v rfl (ld_int rfl hc22) ?_
      refine sl_v rfl (r_lss rfl rfl) ?_
      refine sl_v rfl (r_mv rfl) ?_
      refine bcases (decide (v21 < (0 : Int))) (fun hb23 => ?_) (fun hb23 => ?_)
      · replace h := h.1 (of_decide_eq_true hb23)
        refine sl_no rfl rfl rfl hb23 ?_
        refine sl_no rfl rfl rfl hb23 ?_
        refine sl_no rfl rfl rfl hb23 ?_
        refine sl_no rfl rfl rfl hb23 ?_
        refine sl_no rfl rfl rfl hb23 ?_
        refine sl_no rfl rfl rfl hb23 ?_
        refine sl_no rfl rfl rfl hb23 ?_
        refine sl_no rfl rfl rfl hb23 ?_
        refine sl_v rfl (r_pt rfl hb23 rfl) ?_
        refine sl_nil ?_
        exact ⟨_, true, (kp (kp (kp (kp (kp (kn rfl) rfl) rfl) rfl) rfl) rfl), h⟩
      · replace h := h.2 (of_decide_eq_false hb23)
        refine sl_vg rfl rfl rfl hb23 (r_mv rfl) ?_
        refine sl_vg rfl rfl rfl hb23 (r_mv rfl) ?_
        refine sl_vg rfl rfl rfl hb23 (ia_sl_int (s := a1) (j := k16) (o' := o19 + k16 * 1) rfl rfl hk17 hb20 rfl) ?_
        refine sl_vg rfl rfl rfl hb23 (ld_int rfl hc22) ?_
        refine sl_vg rfl rfl rfl hb23 (r_mv rfl) ?_
        refine sl_vg rfl rfl rfl hb23 (r_len_l (s := a0) rfl rfl Try.underlying22) ?_
        obtain ⟨z24, hz24, h⟩ := h
        refine sl_vg rfl rfl rfl hb23 (r_add rfl rfl hz24) ?_
        refine sl_vg rfl rfl rfl hb23 (r_geq rfl rfl) ?_
        refine sl_v rfl (r_pf rfl hb23 rfl) ?_
        refine sl_nil ?_
        exact ⟨_, decide (z24 ≤ v21), (kp (kp (kp (kp (kp (kn rfl) rfl) rfl) rfl) rfl) rfl), h⟩
    ·
      obtain ⟨g14, j10, rfl, hM15⟩ := hM15
      replace h := hK12 j10 w13 hM15
      have hx : Ext w13 w13 := Chg.refl _
      refine bcases (j10) (fun hb25 => ?_) (fun hb25 => ?_)
      · replace h := h.1 hb25
        refine cw_ct rfl hb25 ?_
        refine cw_seq ?_
        refine cw_region ?_
        refine sl_v rfl (r_as rfl) ?_
        refine sl_v rfl (r_as rfl) ?_
        refine sl_nil ?_
        refine cw_ret ?_
        exact rs_2 (rt rfl) (rt rfl) ⟨(⟨#[]⟩ : ByteArray), false, rfl, h⟩
      · replace h := h.2 hb25
        refine cw_cf rfl hb25 ?_
        refine cw_skip ?_
        refine cw_seq ?_
        refine cw_region ?_
        refine sl_v rfl (r_mv rfl) ?_
        refine sl_v rfl (r_mv rfl) ?_
        obtain ⟨k26, rfl, hk27, h⟩ := h
        obtain ⟨b28, o29, hb30, h⟩ := h
        refine sl_v rfl (ia_sl_int (s := a1) (j := k26) (o' := o29 + k26 * 1) rfl rfl hk27 hb30 rfl) ?_
        obtain ⟨v31, hc32, h⟩ := h
        refine sl_v rfl (ld_int rfl hc32) ?_
        refine sl_v rfl (r_lss rfl rfl) ?_
        refine sl_nil ?_
        refine bcases (decide (v31 < (256 : Int))) (fun hb33 => ?_) (fun hb33 => ?_)
        · replace h := h.1 (of_decide_eq_true hb33)
          refine cw_ct rfl hb33 ?_
          refine cw_region ?_
          refine sl_v rfl (r_mv rfl) ?_
          refine sl_v rfl (r_mv rfl) ?_
          refine sl_v rfl (r_mv rfl) ?_
          refine sl_v rfl (ia_sl_int (s := a1) (j := k26) (o' := o29 + k26 * 1) rfl rfl hk27 hb30 rfl) ?_
          refine sl_v rfl (ld_int rfl hc32) ?_
          obtain ⟨z34, hz34, h⟩ := h
          refine sl_v rfl (r_ci (z := z34) rfl Try.underlying3 Try.underlying5 hz34) ?_
          refine sl_op rfl (bs_sl_uint8 (len := 1) (vs := [(0, .int .u8 z34)]) (cs := #[.int .u8 z34]) (by decide) rfl rfl (fun b35 w36 hN37 => ?_))
          have hB38 := hN37.here
          replace hx := hx.tr hN37.ext
          obtain ⟨q39, rfl, h⟩ := h
          refine sl_v rfl (r_b2s (s := ⟨some ⟨b35, 0, none⟩, 1, 1⟩) (l := [q39]) Try.underlying76 Try.underlying5 Try.underlying9 rfl (bys_row (w := w36) (l := [q39]) hB38 rfl)) ?_
          obtain ⟨hs41, h⟩ := h
          refine sl_v rfl (s_cat rfl rfl hs41) ?_
          refine sl_v rfl (r_as rfl) ?_
          refine sl_nil ?_
          refine cw_region ?_
          refine sl_v rfl (r_mv rfl) ?_
          obtain ⟨z42, hz42, h⟩ := h
          refine sl_v rfl (r_add rfl rfl hz42) ?_
          refine sl_v rfl (r_as rfl) ?_
          refine sl_nil ?_
          replace h := h _ hx
          replace hx : Ext w36 w36 := Chg.refl _
          exact ⟨(l1 ++ (⟨#[q39]⟩ : ByteArray), z42), _, (kp (kp (kp (kp (kn rfl) rfl) rfl) rfl) rfl), h.1, h.2⟩
        · replace h := h.2 (of_decide_eq_false hb33)
          refine cw_cf rfl hb33 ?_
          refine cw_still mo (by kernel_rfl) (fun w44 hd45 => ?_)
          replace hx := hx.tr (Ext.of_drew hd45)
          refine st_v rfl (r_mv rfl) ?_
          refine st_v rfl (r_mv rfl) ?_
          refine st_v rfl (r_mv rfl) ?_
          refine st_v rfl (r_mv rfl) ?_
          refine st_v rfl (ia_sl_int (s := a1) (j := k26) (o' := o29 + k26 * 1) rfl rfl hk27 hb30 rfl) ?_
          refine st_v rfl (ld_int rfl (hx.cell hc32)) ?_
          obtain ⟨z46, hz46, h⟩ := h
          refine st_v rfl (r_sub rfl rfl hz46) ?_
          obtain ⟨k47, rfl, hk48, h⟩ := h
          obtain ⟨b49, o50, hb51, h⟩ := h
          refine st_v rfl (ia_sl_api_Merge (s := a0) (j := k47) (o' := o50 + k47 * 2) rfl rfl hk48 hb51 rfl) ?_
          refine st_v rfl (fa_api_Merge_0 (o' := o50 + k47 * 2) rfl rfl) ?_
          obtain ⟨v52, hc53, h⟩ := h
          refine st_v rfl (ld_string rfl (hx.cell hc53)) ?_
          obtain ⟨hs54, h⟩ := h
          refine st_v rfl (s_cat rfl rfl hs54) ?_
          refine st_v rfl (r_mv rfl) ?_
          refine st_v rfl (r_mv rfl) ?_
          refine st_v rfl (r_mv rfl) ?_
          refine st_v rfl (ia_sl_int (s := a1) (j := k26) (o' := o29 + k26 * 1) rfl rfl hk27 hb30 rfl) ?_
          refine st_v rfl (ld_int rfl (hx.cell hc32)) ?_
          obtain ⟨z55, hz55, h⟩ := h
          refine st_v rfl (r_sub rfl rfl hz55) ?_
          obtain ⟨k56, rfl, hk57, h⟩ := h
          refine st_v rfl (ia_sl_api_Merge (s := a0) (j := k56) (o' := o50 + k56 * 2) rfl rfl hk57 hb51 rfl) ?_
          refine st_v rfl (fa_api_Merge_1 (o' := o50 + k56 * 2 + 1) rfl rfl) ?_
          obtain ⟨v58, hc59, h⟩ := h
          refine st_v rfl (ld_string rfl (hx.cell hc59)) ?_
          obtain ⟨hs60, h⟩ := h
          refine st_v rfl (s_cat rfl rfl hs60) ?_
          refine st_v rfl (r_as rfl) ?_
          refine st_nil ?_
          refine cw_region ?_
          refine sl_v rfl (r_mv rfl) ?_
          obtain ⟨z61, hz61, h⟩ := h
          refine sl_v rfl (r_add rfl rfl hz61) ?_
          refine sl_v rfl (r_as rfl) ?_
          refine sl_nil ?_
          replace h := h _ hx
          replace hx : Ext w44 w44 := Chg.refl _
          exact ⟨((l1 ++ v52) ++ v58, z61), _, (kp (kp (kp (kp (kn rfl) rfl) rfl) rfl) rfl), h.1, h.2⟩
  · replace h := h.2 (of_decide_eq_false hb9)
    refine cw_cf rfl hb9 ?_
    refine cw_exit ?_
    refine cw_seq ?_
    refine cw_region ?_
    refine sl_v rfl (r_mv rfl) ?_
    refine sl_v rfl (r_as rfl) ?_
    refine sl_v rfl (r_as rfl) ?_
    refine sl_nil ?_
    refine cw_ret ?_
    exact rs_2 (rt rfl) (rt rfl) ⟨l1, true, rfl, h⟩

def VC_apply_Coder_Count (a0 : Option Addr) (a1 : Sl) (R : Int → Bool → World → Prop) (w : World) : Prop :=
  (a0 = none → (R 0 false w)) ∧ (¬ (a0 = none) → (∃ (I5 : Sl → Sl → Int → World → Prop) (μ6 : Sl → Sl → Int → World → Nat), I5 (⟨none, 0, 0⟩ : Sl) (⟨none, 0, 0⟩ : Sl) 0 w ∧ ∀ (l2 : Sl) (l3 : Sl) (l4 : Int) (w8 : World), I5 l2 l3 l4 w8 → ((l4 < ((a1.n : Nat) : Int) → (∃ k12 : Nat, l4 = ((k12 : Nat) : Int) ∧ k12 < a1.n ∧ (∃ (b14 o15 : Nat), a1.b = some ⟨b14, o15, none⟩ ∧ (∃ v17_0 : ByteArray, ∃ v17_1 : Int, Cells w8 b14 (o15 + k12 * 2) [.string v17_0, .int .i64 v17_1] ∧ (∀ (b19 : Nat) (w20 : World), Priv w8 b19 w20 → (∀ w23 : World, Chg (fun b => b = b19) w20 w23 → (∀ w25 : World, Ext w23 w25 → (∀ (b27 : Nat) (w28 : World), New w25 b27 (.cells #[.int .i64 v17_1] t_int (0, 0)) w28 → (∃ xs35 : List Value, Own w28 t_int 1 l2 xs35 ∧ ∃ (b38 o39 : Nat) (news40 : List Value), (⟨some ⟨b27, 0, none⟩, 1, 1⟩ : Sl).b = some ⟨b38, o39, none⟩ ∧ Cells w28 b38 o39 news40 ∧ news40.length = 1 * 1 ∧ news40.all (·.oneCell') = true ∧ ((l2.n + 1) * 8 ≤ 140737488355328 ∧ l2.n + 1 ≤ maxLen) ∧ (l2.blk ≠ some b19 ∧ (∀ (s32 : Sl) (w31 : World), App w28 t_int 1 l2 xs35 1 news40 s32 w31 → (Calls PP n_apply_Coder_Encode #[.pointer a0, .string v17_0] w31 (fun e w47 => ∃ r50 : Sl, e = .returned (r50.v) ∧ w47.heap[b19]? = w31.heap[b19]? ∧ (∀ (b52 : Nat) (w53 : World), New w47 b52 (.cells #[.int .i64 ((r50.n : Nat) : Int)] t_int (0, 0)) w53 → (∃ xs59 : List Value, Own w53 t_int 1 l3 xs59 ∧ ∃ (b62 o63 : Nat) (news64 : List Value), (⟨some ⟨b52, 0, none⟩, 1, 1⟩ : Sl).b = some ⟨b62, o63, none⟩ ∧ Cells w53 b62 o63 news64 ∧ news64.length = 1 * 1 ∧ news64.all (·.oneCell') = true ∧ ((l3.n + 1) * 8 ≤ 140737488355328 ∧ l3.n + 1 ≤ maxLen) ∧ (l3.blk ≠ some b19 ∧ (∀ (s56 : Sl) (w55 : World), App w53 t_int 1 l3 xs59 1 news64 s56 w55 → (∃ z70 : Int, z70 = IntKind.wrap .i64 (((k12 : Nat) : Int) + 1) ∧ (I5 s32 s56 z70 w55 ∧ μ6 s32 s56 z70 w55 < μ6 l2 l3 l4 w8))))))))))))))))))) ∧ (¬ (l4 < ((a1.n : Nat) : Int)) → (Calls PP n_checked_Dot #[l2.v, l3.v] w8 (fun e w72 => ∃ r75_0 : Int, ∃ r75_1 : Bool, e = .returned (.tuple #[.int .i64 r75_0, .bool r75_1]) ∧ (R r75_0 r75_1 w72)))))))
set_option maxRecDepth 100000 in
theorem vc_apply_Coder_Count {a0 : Option Addr} {a1 : Sl} {R : Int → Bool → World → Prop} {w : World} (h : VC_apply_Coder_Count a0 a1 R w) : Calls PP n_apply_Coder_Count #[.pointer a0, a1.v] w fun e w' => ∃ r0 : Int, ∃ r1 : Bool, e = .returned (.tuple #[.int .i64 r0, .bool r1]) ∧ R r0 r1 w' := by
  refine Calls.mono (calls_of_cw (n := 37) (rs := #[.tmp 4, .tmp 5]) (args := [.pointer a0, a1.v]) (R := fun v w' => ∃ r0 : Int, ∃ r1 : Bool, v = .tuple #[.int .i64 r0, .bool r1] ∧ R r0 r1 w') Try.func33 rfl rfl (Nat.le_of_ble_eq_true rfl) rfl ?_) ?_
  case refine_2 => rintro e w' ⟨v, rfl, hr⟩; obtain ⟨r0, r1, rfl, hr⟩ := hr; exact ⟨r0, r1, rfl, hr⟩
  have hx : Ext w w := Chg.refl _
  unfold VC_apply_Coder_Count at h
  refine cw_seq ?_
  refine cw_region ?_
  refine sl_v rfl (r_as rfl) ?_
  refine sl_v rfl (r_as rfl) ?_
  refine sl_nil ?_
  refine cw_seq ?_
  refine cw_seq ?_
  refine cw_region ?_
  refine sl_v rfl (r_mv rfl) ?_
  refine sl_v rfl (p_eqn rfl rfl Try.underlying50) ?_
  refine sl_nil ?_
  refine bcases (decide (a0 = none)) (fun hb1 => ?_) (fun hb1 => ?_)
  · replace h := h.1 (of_decide_eq_true hb1)
    refine cw_ct rfl hb1 ?_
    refine cw_seq ?_
    refine cw_region ?_
    refine sl_v rfl (r_as rfl) ?_
    refine sl_v rfl (r_as rfl) ?_
    refine sl_nil ?_
    refine cw_ret ?_
    exact rs_2 (rt rfl) (rt rfl) ⟨0, false, rfl, h⟩
  · replace h := h.2 (of_decide_eq_false hb1)
    refine cw_cf rfl hb1 ?_
    refine cw_skip ?_
    refine cw_seq ?_
    refine cw_region ?_
    refine sl_v rfl (r_as rfl) ?_
    refine sl_v rfl (r_as rfl) ?_
    refine sl_nil ?_
    refine cw_seq ?_
    refine cw_seq ?_
    refine cw_region ?_
    refine sl_v rfl (r_mv rfl) ?_
    refine sl_v rfl (r_len_l (s := a1) rfl rfl Try.underlying46) ?_
    refine sl_v rfl (r_mv rfl) ?_
    refine sl_nil ?_
    refine cw_block ?_
    obtain ⟨I5, μ6, hI7, h⟩ := h
    refine cw_loop (σ := Sl × Sl × Int) (fun s g => (upd (upd (upd (upd (upd (upd (nm g []) 0 (.pointer a0)) 6 (s.1.v)) 7 (s.2.1.v)) 12 (a1.v)) 13 (.int .i64 ((a1.n : Nat) : Int))) 14 (.int .i64 s.2.2))) (fun s w => I5 s.1 s.2.1 s.2.2 w) (fun s w => μ6 s.1 s.2.1 s.2.2 w) ((⟨none, 0, 0⟩ : Sl), (⟨none, 0, 0⟩ : Sl), 0) _ (kp (kp (kp (kp (kp (kp (kn rfl) rfl) rfl) rfl) rfl) rfl) rfl) hI7 ?_
    rintro ⟨l2, l3, l4⟩ g9 w8 hi10
    replace h := h l2 l3 l4 w8 hi10
    have hx : Ext w8 w8 := Chg.refl _
    change CW _ PP _ _ _ (upd (upd (upd (upd (upd (upd (nm g9 []) 0 (.pointer a0)) 6 (l2.v)) 7 (l3.v)) 12 (a1.v)) 13 (.int .i64 ((a1.n : Nat) : Int))) 14 (.int .i64 l4)) _
    refine cw_seq ?_
    refine cw_region ?_
    refine sl_v rfl (r_lss rfl rfl) ?_
    refine sl_nil ?_
    refine cw_seq ?_
    refine bcases (decide (l4 < ((a1.n : Nat) : Int))) (fun hb11 => ?_) (fun hb11 => ?_)
    · replace h := h.1 (of_decide_eq_true hb11)
      refine cw_ct rfl hb11 ?_
      refine cw_skip ?_
      refine cw_seq ?_
      refine cw_block ?_
      refine cw_seq ?_
      refine cw_region ?_
      obtain ⟨k12, rfl, hk13, h⟩ := h
      obtain ⟨b14, o15, hb16, h⟩ := h
      refine sl_v rfl (ia_sl_api_Word (s := a1) (j := k12) (o' := o15 + k12 * 2) rfl rfl hk13 hb16 rfl) ?_
      obtain ⟨v17_0, v17_1, hc18, h⟩ := h
      refine sl_v rfl (lda_api_Word rfl rfl hc18) ?_
      refine sl_op rfl (al_api_Word rfl (fun b19 w20 hN21 => ?_))
      have hB22 := hN21.here
      replace h := h b19 w20 ⟨hx.tr hN21.ext, Nat.le_trans hx.size hN21.fresh, lt_of_blk hN21.here⟩
      replace hx : Ext w20 w20 := Chg.refl _
      refine sl_op rfl (st_api_Word (vs := [.string v17_0, .int .i64 v17_1]) rfl rfl rfl rfl rfl ⟨_, _, hB22, Nat.le_of_ble_eq_true rfl⟩ (fun w23 hw24 => ?_))
      have hc_ := sto_chg hw24
      replace hB22 : w23.heap[b19]? = some (.cells #[.string v17_0, .int .i64 v17_1] t_api_Word (0, 0)) := sto_blk hw24 hB22
      replace h := h w23 (Chg.pre hx hc_)
      replace hx : Ext w23 w23 := Chg.refl _
      clear hc_
      refine sl_nil ?_
      refine cw_dw (S := fun w' => w'.cell? ⟨b19, 1, none⟩ = some (.int .i64 v17_1) ∧ w'.cell? ⟨b19, 0, none⟩ = some (.string v17_0) ∧ True) mo (fun w25 hd26 => ?_)
      replace hB22 := (Ext.of_drew hd26).get hB22
      replace hx := hx.tr (Ext.of_drew hd26)
      have hS : w25.cell? ⟨b19, 1, none⟩ = some (.int .i64 v17_1) ∧ w25.cell? ⟨b19, 0, none⟩ = some (.string v17_0) ∧ True := ⟨(cell_blk hB22 rfl), (cell_blk hB22 rfl), trivial⟩
      refine dw_t 0 1 rfl (by kernel_rfl) rfl hS (fun _ _ => (r_mv rfl)) ?_
      refine dw_t 1 3 rfl (by kernel_rfl) rfl hS (fun _ _ => (fa_api_Word_1 (o' := 1) rfl rfl)) ?_
      refine dw_t 2 7 rfl (by kernel_rfl) rfl hS (fun _ hS => (ld_int rfl hS.1)) ?_
      refine dw_t 5 39 rfl (by kernel_rfl) rfl hS (fun _ _ => (r_mv rfl)) ?_
      refine dw_t 6 103 rfl (by kernel_rfl) rfl hS (fun _ _ => (r_mv rfl)) ?_
      refine dw_t 7 231 rfl (by kernel_rfl) rfl hS (fun _ _ => (fa_api_Word_0 (o' := 0) rfl rfl)) ?_
      refine dw_t 8 487 rfl (by kernel_rfl) rfl hS (fun _ hS => (ld_string rfl hS.2.1)) ?_
      replace h := h _ hx
      replace hx : Ext w25 w25 := Chg.refl _
      refine dw_l 3 495 rfl (by kernel_rfl) rfl (bs_sl_int (len := 1) (vs := [(0, .int .i64 v17_1)]) (cs := #[.int .i64 v17_1]) (by decide) rfl rfl (fun b27 w28 hN29 => ?_))
      replace hB22 := hN29.ext.get hB22
      replace h := h b27 w28 hN29
      replace hx : Ext w28 w28 := Chg.refl _
      replace hS : w28.cell? ⟨b19, 1, none⟩ = some (.int .i64 v17_1) ∧ w28.cell? ⟨b19, 0, none⟩ = some (.string v17_0) ∧ True := ⟨(cell_blk hB22 rfl), (cell_blk hB22 rfl), trivial⟩
      refine ⟨hS, ?_⟩
      obtain ⟨xs35, ho36, b38, o39, news40, hyb41, hc42, hl43, h144, hb37, h⟩ := h
      obtain ⟨hn45, h⟩ := h
      refine dw_l 4 511 rfl (by kernel_rfl) rfl (ap_sl_int (s := l2) (xs := xs35) (m := 1) (news := news40) rfl (congrArg (fun z => Value.slice z (⟨some ⟨b27, 0, none⟩, 1, 1⟩ : Sl).n (⟨some ⟨b27, 0, none⟩, 1, 1⟩ : Sl).c) hyb41) hx ho36 hc42 hl43 h144 hb37 (fun s32 w31 ha33 hc34 => ?_))
      replace hB22 := hc34.get hB22 hn45
      replace h := h s32 w31 ha33
      replace hx : Ext w31 w31 := Chg.refl _
      replace hS : w31.cell? ⟨b19, 1, none⟩ = some (.int .i64 v17_1) ∧ w31.cell? ⟨b19, 0, none⟩ = some (.string v17_0) ∧ True := ⟨(cell_blk hB22 rfl), (cell_blk hB22 rfl), trivial⟩
      refine ⟨hS, ?_⟩
      refine dw_l 9 1023 rfl (by kernel_rfl) rfl (ok_call c_apply_Coder_Encode rfl (Calls.mono h (fun e46 w47 hq48 => ?_)))
      clear h
      obtain ⟨r50, he49, hk51, h⟩ := hq48
      refine ⟨_, he49, ?_⟩
      replace hB22 := hk51.trans hB22
      replace hx : Ext w47 w47 := Chg.refl _
      replace hS : w47.cell? ⟨b19, 1, none⟩ = some (.int .i64 v17_1) ∧ w47.cell? ⟨b19, 0, none⟩ = some (.string v17_0) ∧ True := ⟨(cell_blk hB22 rfl), (cell_blk hB22 rfl), trivial⟩
      refine ⟨hS, ?_⟩
      refine dw_t 10 2047 rfl (by kernel_rfl) rfl hS (fun _ _ => (r_len_l (s := r50) rfl rfl Try.underlying58)) ?_
      refine dw_l 11 4095 rfl (by kernel_rfl) rfl (bs_sl_int (len := 1) (vs := [(0, .int .i64 ((r50.n : Nat) : Int))]) (cs := #[.int .i64 ((r50.n : Nat) : Int)]) (by decide) rfl rfl (fun b52 w53 hN54 => ?_))
      replace hB22 := hN54.ext.get hB22
      replace h := h b52 w53 hN54
      replace hx : Ext w53 w53 := Chg.refl _
      replace hS : w53.cell? ⟨b19, 1, none⟩ = some (.int .i64 v17_1) ∧ w53.cell? ⟨b19, 0, none⟩ = some (.string v17_0) ∧ True := ⟨(cell_blk hB22 rfl), (cell_blk hB22 rfl), trivial⟩
      refine ⟨hS, ?_⟩
      obtain ⟨xs59, ho60, b62, o63, news64, hyb65, hc66, hl67, h168, hb61, h⟩ := h
      obtain ⟨hn69, h⟩ := h
      refine dw_l 12 8191 rfl (by kernel_rfl) rfl (ap_sl_int (s := l3) (xs := xs59) (m := 1) (news := news64) rfl (congrArg (fun z => Value.slice z (⟨some ⟨b52, 0, none⟩, 1, 1⟩ : Sl).n (⟨some ⟨b52, 0, none⟩, 1, 1⟩ : Sl).c) hyb65) hx ho60 hc66 hl67 h168 hb61 (fun s56 w55 ha57 hc58 => ?_))
      replace hB22 := hc58.get hB22 hn69
      replace h := h s56 w55 ha57
      replace hx : Ext w55 w55 := Chg.refl _
      replace hS : w55.cell? ⟨b19, 1, none⟩ = some (.int .i64 v17_1) ∧ w55.cell? ⟨b19, 0, none⟩ = some (.string v17_0) ∧ True := ⟨(cell_blk hB22 rfl), (cell_blk hB22 rfl), trivial⟩
      refine ⟨hS, ?_⟩
      refine dw_t 13 16383 rfl (by kernel_rfl) rfl hS (fun _ _ => (r_as rfl)) ?_
      refine dw_t 14 32767 rfl (by kernel_rfl) rfl hS (fun _ _ => (r_as rfl)) ?_
      refine dw_d (by kernel_rfl) ?_
      clear hS
      refine cw_region ?_
      obtain ⟨z70, hz70, h⟩ := h
      refine sl_v rfl (r_add rfl rfl hz70) ?_
      refine sl_v rfl (r_mv rfl) ?_
      refine sl_nil ?_
      exact ⟨(s32, s56, z70), _, (kp (kp (kp (kp (kp (kp (kn rfl) rfl) rfl) rfl) rfl) rfl) rfl), h.1, h.2⟩
    · replace h := h.2 (of_decide_eq_false hb11)
      refine cw_cf rfl hb11 ?_
      refine cw_exit ?_
      refine cw_seq ?_
      refine cw_region ?_
      refine sl_v rfl (r_mv rfl) ?_
      refine sl_v rfl (r_mv rfl) ?_
      refine sl_op rfl (ok_call c_checked_Dot rfl (Calls.mono h (fun e71 w72 hq73 => ?_)))
      clear h
      obtain ⟨r75_0, r75_1, he74, h⟩ := hq73
      refine ⟨_, he74, ?_⟩
      replace hx : Ext w72 w72 := Chg.refl _
      refine sl_v rfl (r_ex rfl rfl) ?_
      refine sl_v rfl (r_ex rfl rfl) ?_
      refine sl_v rfl (r_as rfl) ?_
      refine sl_v rfl (r_as rfl) ?_
      refine sl_nil ?_
      refine cw_ret ?_
      exact rs_2 (rt rfl) (rt rfl) ⟨r75_0, r75_1, rfl, h⟩

def VC_ref20_Count (a0 : Sl) (a1 : Sl) (R : Int → Bool → World → Prop) (w : World) : Prop :=
  ∃ (I4 : Sl → Sl → Int → World → Prop) (μ5 : Sl → Sl → Int → World → Nat), I4 (⟨none, 0, 0⟩ : Sl) (⟨none, 0, 0⟩ : Sl) 0 w ∧ ∀ (l1 : Sl) (l2 : Sl) (l3 : Int) (w7 : World), I4 l1 l2 l3 w7 → ((l3 < ((a1.n : Nat) : Int) → (∃ k11 : Nat, l3 = ((k11 : Nat) : Int) ∧ k11 < a1.n ∧ (∃ (b13 o14 : Nat), a1.b = some ⟨b13, o14, none⟩ ∧ (∃ v16 : Int, w7.cell? ⟨b13, o14 + k11 * 2 + 1, none⟩ = some (.int .i64 v16) ∧ (∃ xs26 : List Value, Own w7 t_int 1 l1 xs26 ∧ ((l1.n + 1) * 8 ≤ 140737488355328 ∧ l1.n + 1 ≤ maxLen) ∧ (∀ (s23 : Sl) (w22 : World), App w7 t_int 1 l1 xs26 1 [.int .i64 v16] s23 w22 → (∃ v29 : ByteArray, w22.cell? ⟨b13, o14 + k11 * 2, none⟩ = some (.string v29) ∧ (Calls PP n_ref20_Split #[a0.v, .string v29] w22 (fun e w32 => ∃ r35 : Sl, e = .returned (r35.v) ∧ (∃ xs44 : List Value, Own w32 t_int 1 l2 xs44 ∧ ((l2.n + 1) * 8 ≤ 140737488355328 ∧ l2.n + 1 ≤ maxLen) ∧ (∀ (s41 : Sl) (w40 : World), App w32 t_int 1 l2 xs44 1 [.int .i64 ((r35.n : Nat) : Int)] s41 w40 → (∃ z47 : Int, z47 = IntKind.wrap .i64 (((k11 : Nat) : Int) + 1) ∧ (I4 s23 s41 z47 w40 ∧ μ5 s23 s41 z47 w40 < μ5 l1 l2 l3 w7))))))))))))) ∧ (¬ (l3 < ((a1.n : Nat) : Int)) → (Calls PP n_ref06_Dot #[l1.v, l2.v] w7 (fun e w49 => ∃ r52_0 : Int, ∃ r52_1 : Bool, e = .returned (.tuple #[.int .i64 r52_0, .bool r52_1]) ∧ (R r52_0 r52_1 w49)))))
set_option maxRecDepth 100000 in
theorem vc_ref20_Count {a0 : Sl} {a1 : Sl} {R : Int → Bool → World → Prop} {w : World} (h : VC_ref20_Count a0 a1 R w) : Calls PP n_ref20_Count #[a0.v, a1.v] w fun e w' => ∃ r0 : Int, ∃ r1 : Bool, e = .returned (.tuple #[.int .i64 r0, .bool r1]) ∧ R r0 r1 w' := by
  refine Calls.mono (calls_of_cw (n := 39) (rs := #[.tmp 4, .tmp 5]) (args := [a0.v, a1.v]) (R := fun v w' => ∃ r0 : Int, ∃ r1 : Bool, v = .tuple #[.int .i64 r0, .bool r1] ∧ R r0 r1 w') Try.func34 rfl rfl (Nat.le_of_ble_eq_true rfl) rfl ?_) ?_
  case refine_2 => rintro e w' ⟨v, rfl, hr⟩; obtain ⟨r0, r1, rfl, hr⟩ := hr; exact ⟨r0, r1, rfl, hr⟩
  have hx : Ext w w := Chg.refl _
  unfold VC_ref20_Count at h
  refine cw_seq ?_
  refine cw_region ?_
  refine sl_v rfl (r_as rfl) ?_
  refine sl_v rfl (r_as rfl) ?_
  refine sl_nil ?_
  refine cw_seq ?_
  refine cw_region ?_
  refine sl_v rfl (r_as rfl) ?_
  refine sl_v rfl (r_as rfl) ?_
  refine sl_nil ?_
  refine cw_seq ?_
  refine cw_seq ?_
  refine cw_region ?_
  refine sl_v rfl (r_as rfl) ?_
  refine sl_nil ?_
  refine cw_block ?_
  obtain ⟨I4, μ5, hI6, h⟩ := h
  refine cw_loop (σ := Sl × Sl × Int) (fun s g => (upd (upd (upd (upd (upd (nm g []) 0 (a0.v)) 1 (a1.v)) 6 (s.1.v)) 7 (s.2.1.v)) 8 (.int .i64 s.2.2))) (fun s w => I4 s.1 s.2.1 s.2.2 w) (fun s w => μ5 s.1 s.2.1 s.2.2 w) ((⟨none, 0, 0⟩ : Sl), (⟨none, 0, 0⟩ : Sl), 0) _ (kp (kp (kp (kp (kp (kn rfl) rfl) rfl) rfl) rfl) rfl) hI6 ?_
  rintro ⟨l1, l2, l3⟩ g8 w7 hi9
  replace h := h l1 l2 l3 w7 hi9
  have hx : Ext w7 w7 := Chg.refl _
  change CW _ PP _ _ _ (upd (upd (upd (upd (upd (nm g8 []) 0 (a0.v)) 1 (a1.v)) 6 (l1.v)) 7 (l2.v)) 8 (.int .i64 l3)) _
  refine cw_seq ?_
  refine cw_seq ?_
  refine cw_region ?_
  refine sl_v rfl (r_mv rfl) ?_
  refine sl_v rfl (r_mv rfl) ?_
  refine sl_v rfl (r_len_l (s := a1) rfl rfl Try.underlying46) ?_
  refine sl_v rfl (r_lss rfl rfl) ?_
  refine sl_nil ?_
  refine bcases (decide (l3 < ((a1.n : Nat) : Int))) (fun hb10 => ?_) (fun hb10 => ?_)
  · replace h := h.1 (of_decide_eq_true hb10)
    refine cw_ct rfl hb10 ?_
    refine cw_skip ?_
    refine cw_seq ?_
    refine cw_block ?_
    refine cw_seq ?_
    refine cw_region ?_
    refine sl_v rfl (r_mv rfl) ?_
    refine sl_v rfl (r_mv rfl) ?_
    refine sl_v rfl (r_mv rfl) ?_
    obtain ⟨k11, rfl, hk12, h⟩ := h
    obtain ⟨b13, o14, hb15, h⟩ := h
    refine sl_v rfl (ia_sl_api_Word (s := a1) (j := k11) (o' := o14 + k11 * 2) rfl rfl hk12 hb15 rfl) ?_
    refine sl_v rfl (fa_api_Word_1 (o' := o14 + k11 * 2 + 1) rfl rfl) ?_
    obtain ⟨v16, hc17, h⟩ := h
    refine sl_v rfl (ld_int rfl hc17) ?_
    refine sl_op rfl (bs_sl_int (len := 1) (vs := [(0, .int .i64 v16)]) (cs := #[.int .i64 v16]) (by decide) rfl rfl (fun b18 w19 hN20 => ?_))
    have hB21 := hN20.here
    replace hx := hx.tr hN20.ext
    obtain ⟨xs26, ho27, hb28, h⟩ := h
    refine sl_op rfl (ap_sl_int (s := l1) (xs := xs26) (m := 1) (news := [.int .i64 v16]) rfl rfl hx ho27 (.c (cell_blk hB21 rfl) .n) rfl rfl hb28 (fun s23 w22 ha24 hc25 => ?_))
    replace h := h s23 w22 ha24
    replace hx : Ext w22 w22 := Chg.refl _
    refine sl_v rfl (r_as rfl) ?_
    refine sl_nil ?_
    refine cw_region ?_
    refine sl_v rfl (r_mv rfl) ?_
    refine sl_v rfl (r_mv rfl) ?_
    refine sl_v rfl (r_mv rfl) ?_
    refine sl_v rfl (r_mv rfl) ?_
    refine sl_v rfl (ia_sl_api_Word (s := a1) (j := k11) (o' := o14 + k11 * 2) rfl rfl hk12 hb15 rfl) ?_
    refine sl_v rfl (fa_api_Word_0 (o' := o14 + k11 * 2) rfl rfl) ?_
    obtain ⟨v29, hc30, h⟩ := h
    refine sl_v rfl (ld_string rfl hc30) ?_
    refine sl_op rfl (ok_call c_ref20_Split rfl (Calls.mono h (fun e31 w32 hq33 => ?_)))
    clear h
    obtain ⟨r35, he34, h⟩ := hq33
    refine ⟨_, he34, ?_⟩
    replace hx : Ext w32 w32 := Chg.refl _
    refine sl_v rfl (r_len_l (s := r35) rfl rfl Try.underlying37) ?_
    refine sl_op rfl (bs_sl_int (len := 1) (vs := [(0, .int .i64 ((r35.n : Nat) : Int))]) (cs := #[.int .i64 ((r35.n : Nat) : Int)]) (by decide) rfl rfl (fun b36 w37 hN38 => ?_))
    have hB39 := hN38.here
    replace hx := hx.tr hN38.ext
    obtain ⟨xs44, ho45, hb46, h⟩ := h
    refine sl_op rfl (ap_sl_int (s := l2) (xs := xs44) (m := 1) (news := [.int .i64 ((r35.n : Nat) : Int)]) rfl rfl hx ho45 (.c (cell_blk hB39 rfl) .n) rfl rfl hb46 (fun s41 w40 ha42 hc43 => ?_))
    replace h := h s41 w40 ha42
    replace hx : Ext w40 w40 := Chg.refl _
    refine sl_v rfl (r_as rfl) ?_
    refine sl_nil ?_
    refine cw_region ?_
    refine sl_v rfl (r_mv rfl) ?_
    obtain ⟨z47, hz47, h⟩ := h
    refine sl_v rfl (r_add rfl rfl hz47) ?_
    refine sl_v rfl (r_as rfl) ?_
    refine sl_nil ?_
    exact ⟨(s23, s41, z47), _, (kp (kp (kp (kp (kp (kn rfl) rfl) rfl) rfl) rfl) rfl), h.1, h.2⟩
  · replace h := h.2 (of_decide_eq_false hb10)
    refine cw_cf rfl hb10 ?_
    refine cw_exit ?_
    refine cw_seq ?_
    refine cw_region ?_
    refine sl_v rfl (r_mv rfl) ?_
    refine sl_v rfl (r_mv rfl) ?_
    refine sl_op rfl (ok_call c_ref06_Dot rfl (Calls.mono h (fun e48 w49 hq50 => ?_)))
    clear h
    obtain ⟨r52_0, r52_1, he51, h⟩ := hq50
    refine ⟨_, he51, ?_⟩
    replace hx : Ext w49 w49 := Chg.refl _
    refine sl_v rfl (r_ex rfl rfl) ?_
    refine sl_v rfl (r_ex rfl rfl) ?_
    refine sl_v rfl (r_as rfl) ?_
    refine sl_v rfl (r_as rfl) ?_
    refine sl_nil ?_
    refine cw_ret ?_
    exact rs_2 (rt rfl) (rt rfl) ⟨r52_0, r52_1, rfl, h⟩

def VC_ref20_Split (a0 : Sl) (a1 : ByteArray) (R : Sl → World → Prop) (w : World) : Prop :=
  Calls PP n_ref16_Texts #[.string a1] w (fun e w2 => ∃ r5 : Sl, e = .returned (r5.v) ∧ (∃ (I8 : Sl → Int → World → Prop) (μ9 : Sl → Int → World → Nat), I8 r5 0 w2 ∧ ∀ (l6 : Sl) (l7 : Int) (w11 : World), I8 l6 l7 w11 → ((l7 < ((a0.n : Nat) : Int) → (∃ k15 : Nat, l7 = ((k15 : Nat) : Int) ∧ k15 < a0.n ∧ (∃ (b17 o18 : Nat), a0.b = some ⟨b17, o18, none⟩ ∧ (∃ v20_0 : ByteArray, ∃ v20_1 : ByteArray, Cells w11 b17 (o18 + k15 * 2) [.string v20_0, .string v20_1] ∧ (Calls PP n_ref16_Join #[l6.v, .agg #[.string v20_0, .string v20_1]] w11 (fun e w23 => ∃ r26 : Sl, e = .returned (r26.v) ∧ (∃ z27 : Int, z27 = IntKind.wrap .i64 (((k15 : Nat) : Int) + 1) ∧ (I8 r26 z27 w23 ∧ μ9 r26 z27 w23 < μ9 l6 l7 w11)))))))) ∧ (¬ (l7 < ((a0.n : Nat) : Int)) → (R l6 w11)))))
set_option maxRecDepth 100000 in
theorem vc_ref20_Split {a0 : Sl} {a1 : ByteArray} {R : Sl → World → Prop} {w : World} (h : VC_ref20_Split a0 a1 R w) : Calls PP n_ref20_Split #[a0.v, .string a1] w fun e w' => ∃ r0 : Sl, e = .returned (r0.v) ∧ R r0 w' := by
  refine Calls.mono (calls_of_cw (n := 22) (rs := #[.tmp 4]) (args := [a0.v, .string a1]) (R := fun v w' => ∃ r0 : Sl, v = r0.v ∧ R r0 w') Try.func35 rfl rfl (Nat.le_of_ble_eq_true rfl) rfl ?_) ?_
  case refine_2 => rintro e w' ⟨v, rfl, hr⟩; obtain ⟨r0, rfl, hr⟩ := hr; exact ⟨r0, rfl, hr⟩
  have hx : Ext w w := Chg.refl _
  unfold VC_ref20_Split at h
  refine cw_seq ?_
  refine cw_region ?_
  refine sl_v rfl (r_as rfl) ?_
  refine sl_nil ?_
  refine cw_seq ?_
  refine cw_region ?_
  refine sl_v rfl (r_mv rfl) ?_
  refine sl_op rfl (ok_call c_ref16_Texts rfl (Calls.mono h (fun e1 w2 hq3 => ?_)))
  clear h
  obtain ⟨r5, he4, h⟩ := hq3
  refine ⟨_, he4, ?_⟩
  replace hx : Ext w2 w2 := Chg.refl _
  refine sl_v rfl (r_as rfl) ?_
  refine sl_nil ?_
  refine cw_seq ?_
  refine cw_seq ?_
  refine cw_region ?_
  refine sl_v rfl (r_as rfl) ?_
  refine sl_nil ?_
  refine cw_block ?_
  obtain ⟨I8, μ9, hI10, h⟩ := h
  refine cw_loop (σ := Sl × Int) (fun s g => (upd (upd (upd (nm g []) 0 (a0.v)) 5 (s.1.v)) 6 (.int .i64 s.2))) (fun s w => I8 s.1 s.2 w) (fun s w => μ9 s.1 s.2 w) (r5, 0) _ (kp (kp (kp (kn rfl) rfl) rfl) rfl) hI10 ?_
  rintro ⟨l6, l7⟩ g12 w11 hi13
  replace h := h l6 l7 w11 hi13
  have hx : Ext w11 w11 := Chg.refl _
  change CW _ PP _ _ _ (upd (upd (upd (nm g12 []) 0 (a0.v)) 5 (l6.v)) 6 (.int .i64 l7)) _
  refine cw_seq ?_
  refine cw_seq ?_
  refine cw_region ?_
  refine sl_v rfl (r_mv rfl) ?_
  refine sl_v rfl (r_mv rfl) ?_
  refine sl_v rfl (r_len_l (s := a0) rfl rfl Try.underlying22) ?_
  refine sl_v rfl (r_lss rfl rfl) ?_
  refine sl_nil ?_
  refine bcases (decide (l7 < ((a0.n : Nat) : Int))) (fun hb14 => ?_) (fun hb14 => ?_)
  · replace h := h.1 (of_decide_eq_true hb14)
    refine cw_ct rfl hb14 ?_
    refine cw_skip ?_
    refine cw_seq ?_
    refine cw_block ?_
    refine cw_region ?_
    refine sl_v rfl (r_mv rfl) ?_
    refine sl_v rfl (r_mv rfl) ?_
    refine sl_v rfl (r_mv rfl) ?_
    obtain ⟨k15, rfl, hk16, h⟩ := h
    obtain ⟨b17, o18, hb19, h⟩ := h
    refine sl_v rfl (ia_sl_api_Merge (s := a0) (j := k15) (o' := o18 + k15 * 2) rfl rfl hk16 hb19 rfl) ?_
    obtain ⟨v20_0, v20_1, hc21, h⟩ := h
    refine sl_v rfl (lda_api_Merge rfl rfl hc21) ?_
    refine sl_op rfl (ok_call c_ref16_Join rfl (Calls.mono h (fun e22 w23 hq24 => ?_)))
    clear h
    obtain ⟨r26, he25, h⟩ := hq24
    refine ⟨_, he25, ?_⟩
    replace hx : Ext w23 w23 := Chg.refl _
    refine sl_v rfl (r_as rfl) ?_
    refine sl_nil ?_
    refine cw_region ?_
    refine sl_v rfl (r_mv rfl) ?_
    obtain ⟨z27, hz27, h⟩ := h
    refine sl_v rfl (r_add rfl rfl hz27) ?_
    refine sl_v rfl (r_as rfl) ?_
    refine sl_nil ?_
    exact ⟨(r26, z27), _, (kp (kp (kp (kn rfl) rfl) rfl) rfl), h.1, h.2⟩
  · replace h := h.2 (of_decide_eq_false hb14)
    refine cw_cf rfl hb14 ?_
    refine cw_exit ?_
    refine cw_seq ?_
    refine cw_region ?_
    refine sl_v rfl (r_mv rfl) ?_
    refine sl_v rfl (r_as rfl) ?_
    refine sl_nil ?_
    refine cw_ret ?_
    exact rs_1 (rt rfl) ⟨l6, rfl, h⟩

def VC_ref01_Ints (a0 : Sl) (a1 : Sl) (R : Bool → World → Prop) (w : World) : Prop :=
  (((a0.n : Nat) : Int) ≠ ((a1.n : Nat) : Int) → (R false w)) ∧ (¬ (((a0.n : Nat) : Int) ≠ ((a1.n : Nat) : Int)) → (∃ (I3 : Int → World → Prop) (μ4 : Int → World → Nat), I3 0 w ∧ ∀ (l2 : Int) (w6 : World), I3 l2 w6 → ((l2 < ((a0.n : Nat) : Int) → (∃ k12 : Nat, l2 = ((k12 : Nat) : Int) ∧ k12 < a0.n ∧ (∃ (b14 o15 : Nat), a0.b = some ⟨b14, o15, none⟩ ∧ (∃ v17 : Int, w6.cell? ⟨b14, o15 + k12 * 1, none⟩ = some (.int .i64 v17) ∧ (k12 < a1.n ∧ (∃ (b20 o21 : Nat), a1.b = some ⟨b20, o21, none⟩ ∧ (∃ v23 : Int, w6.cell? ⟨b20, o21 + k12 * 1, none⟩ = some (.int .i64 v23) ∧ ((v17 ≠ v23 → (∀ w10 : World, Ext w6 w10 → (R false w10))) ∧ (¬ (v17 ≠ v23) → (∃ z27 : Int, z27 = IntKind.wrap .i64 (((k12 : Nat) : Int) + 1) ∧ (∀ w10 : World, Ext w6 w10 → (I3 z27 w10 ∧ μ4 z27 w10 < μ4 l2 w6)))))))))))) ∧ (¬ (l2 < ((a0.n : Nat) : Int)) → (R true w6)))))
set_option maxRecDepth 100000 in
theorem vc_ref01_Ints {a0 : Sl} {a1 : Sl} {R : Bool → World → Prop} {w : World} (h : VC_ref01_Ints a0 a1 R w) : Calls PP n_ref01_Ints #[a0.v, a1.v] w fun e w' => ∃ r0 : Bool, e = .returned (.bool r0) ∧ R r0 w' := by
  refine Calls.mono (calls_of_cw (n := 26) (rs := #[.tmp 4]) (args := [a0.v, a1.v]) (R := fun v w' => ∃ r0 : Bool, v = .bool r0 ∧ R r0 w') Try.func36 rfl rfl (Nat.le_of_ble_eq_true rfl) rfl ?_) ?_
  case refine_2 => rintro e w' ⟨v, rfl, hr⟩; obtain ⟨r0, rfl, hr⟩ := hr; exact ⟨r0, rfl, hr⟩
  have hx : Ext w w := Chg.refl _
  unfold VC_ref01_Ints at h
  refine cw_seq ?_
  refine cw_region ?_
  refine sl_v rfl (r_as rfl) ?_
  refine sl_nil ?_
  refine cw_seq ?_
  refine cw_seq ?_
  refine cw_region ?_
  refine sl_v rfl (r_mv rfl) ?_
  refine sl_v rfl (r_len_l (s := a0) rfl rfl Try.underlying58) ?_
  refine sl_v rfl (r_mv rfl) ?_
  refine sl_v rfl (r_len_l (s := a1) rfl rfl Try.underlying58) ?_
  refine sl_v rfl (r_neq rfl rfl) ?_
  refine sl_nil ?_
  refine bcases (decide (((a0.n : Nat) : Int) ≠ ((a1.n : Nat) : Int))) (fun hb1 => ?_) (fun hb1 => ?_)
  · replace h := h.1 (of_decide_eq_true hb1)
    refine cw_ct rfl hb1 ?_
    refine cw_seq ?_
    refine cw_region ?_
    refine sl_v rfl (r_as rfl) ?_
    refine sl_nil ?_
    refine cw_ret ?_
    exact rs_1 (rt rfl) ⟨false, rfl, h⟩
  · replace h := h.2 (of_decide_eq_false hb1)
    refine cw_cf rfl hb1 ?_
    refine cw_skip ?_
    refine cw_seq ?_
    refine cw_seq ?_
    refine cw_region ?_
    refine sl_v rfl (r_as rfl) ?_
    refine sl_nil ?_
    refine cw_block ?_
    obtain ⟨I3, μ4, hI5, h⟩ := h
    refine cw_loop (σ := Int) (fun s g => (upd (upd (upd (nm g []) 0 (a0.v)) 1 (a1.v)) 5 (.int .i64 s))) (fun s w => I3 s w) (fun s w => μ4 s w) (0) _ (kp (kp (kp (kn rfl) rfl) rfl) rfl) hI5 ?_
    rintro l2 g7 w6 hi8
    replace h := h l2 w6 hi8
    have hx : Ext w6 w6 := Chg.refl _
    change CW _ PP _ _ _ (upd (upd (upd (nm g7 []) 0 (a0.v)) 1 (a1.v)) 5 (.int .i64 l2)) _
    refine cw_seq ?_
    refine cw_seq ?_
    refine cw_region ?_
    refine sl_v rfl (r_mv rfl) ?_
    refine sl_v rfl (r_mv rfl) ?_
    refine sl_v rfl (r_len_l (s := a0) rfl rfl Try.underlying58) ?_
    refine sl_v rfl (r_lss rfl rfl) ?_
    refine sl_nil ?_
    refine bcases (decide (l2 < ((a0.n : Nat) : Int))) (fun hb9 => ?_) (fun hb9 => ?_)
    · replace h := h.1 (of_decide_eq_true hb9)
      refine cw_ct rfl hb9 ?_
      refine cw_skip ?_
      refine cw_seq ?_
      refine cw_block ?_
      refine cw_seq ?_
      refine cw_still mo (by kernel_rfl) (fun w10 hd11 => ?_)
      replace hx := hx.tr (Ext.of_drew hd11)
      refine st_v rfl (r_mv rfl) ?_
      refine st_v rfl (r_mv rfl) ?_
      obtain ⟨k12, rfl, hk13, h⟩ := h
      obtain ⟨b14, o15, hb16, h⟩ := h
      refine st_v rfl (ia_sl_int (s := a0) (j := k12) (o' := o15 + k12 * 1) rfl rfl hk13 hb16 rfl) ?_
      obtain ⟨v17, hc18, h⟩ := h
      refine st_v rfl (ld_int rfl (hx.cell hc18)) ?_
      refine st_v rfl (r_mv rfl) ?_
      refine st_v rfl (r_mv rfl) ?_
      obtain ⟨hk19, h⟩ := h
      obtain ⟨b20, o21, hb22, h⟩ := h
      refine st_v rfl (ia_sl_int (s := a1) (j := k12) (o' := o21 + k12 * 1) rfl rfl hk19 hb22 rfl) ?_
      obtain ⟨v23, hc24, h⟩ := h
      refine st_v rfl (ld_int rfl (hx.cell hc24)) ?_
      refine st_v rfl (r_neq rfl rfl) ?_
      refine st_nil ?_
      refine bcases (decide (v17 ≠ v23)) (fun hb25 => ?_) (fun hb25 => ?_)
      · replace h := h.1 (of_decide_eq_true hb25)
        refine cw_ct rfl hb25 ?_
        refine cw_seq ?_
        refine cw_region ?_
        refine sl_v rfl (r_as rfl) ?_
        refine sl_nil ?_
        refine cw_ret ?_
        replace h := h _ hx
        replace hx : Ext w10 w10 := Chg.refl _
        exact rs_1 (rt rfl) ⟨false, rfl, h⟩
      · replace h := h.2 (of_decide_eq_false hb25)
        refine cw_cf rfl hb25 ?_
        refine cw_skip ?_
        refine cw_region ?_
        refine sl_v rfl (r_mv rfl) ?_
        obtain ⟨z27, hz27, h⟩ := h
        refine sl_v rfl (r_add rfl rfl hz27) ?_
        refine sl_v rfl (r_as rfl) ?_
        refine sl_nil ?_
        replace h := h _ hx
        replace hx : Ext w10 w10 := Chg.refl _
        exact ⟨(z27), _, (kp (kp (kp (kn rfl) rfl) rfl) rfl), h.1, h.2⟩
    · replace h := h.2 (of_decide_eq_false hb9)
      refine cw_cf rfl hb9 ?_
      refine cw_exit ?_
      refine cw_seq ?_
      refine cw_region ?_
      refine sl_v rfl (r_as rfl) ?_
      refine sl_nil ?_
      refine cw_ret ?_
      exact rs_1 (rt rfl) ⟨true, rfl, h⟩

def VC_apply_Coder_Encode (a0 : Option Addr) (a1 : ByteArray) (R : Sl → World → Prop) (w : World) : Prop :=
  (a0 = none → (R (⟨none, 0, 0⟩ : Sl) w)) ∧ (¬ (a0 = none) → (Calls PP n_seq_New #[.string a1] w (fun e w3 => ∃ r6 : Option Addr, e = .returned (.pointer r6) ∧ (∃ (I8 : Int → World → Prop) (μ9 : Int → World → Nat), I8 0 w3 ∧ ∀ (l7 : Int) (w11 : World), I8 l7 w11 → (Calls PP n_apply_Coder_next #[.pointer a0, .pointer r6, .int .i64 l7] w11 (fun e w15 => ∃ r18_0_0 : Int, ∃ r18_0_1 : Int, ∃ r18_1 : Int, ∃ r18_2 : Bool, e = .returned (.tuple #[.agg #[.int .i64 r18_0_0, .int .i64 r18_0_1], .int .i64 r18_1, .bool r18_2]) ∧ (∀ (b19 : Nat) (w20 : World), Priv w15 b19 w20 → (∀ w23 : World, Chg (fun b => b = b19) w20 w23 → ((r18_2 = true → (Calls PP n_seq_Seq_Merge #[.pointer r6, .agg #[.int .i64 r18_0_0, .int .i64 r18_0_1], .int .i64 r18_1] w23 (fun e w27 => ∃ r30_0 : Int, ∃ r30_1 : Sl, e = .returned (.tuple #[.int .i64 r30_0, r30_1.v]) ∧ w27.heap[b19]? = w23.heap[b19]? ∧ (I8 r18_1 w27 ∧ μ9 r18_1 w27 < μ9 l7 w11)))) ∧ (r18_2 = false → (Calls PP n_seq_Seq_Symbols #[.pointer r6] w23 (fun e w33 => ∃ r36 : Sl, e = .returned (r36.v) ∧ w33.heap[b19]? = w23.heap[b19]? ∧ (R r36 w33)))))))))))))
set_option maxRecDepth 100000 in
theorem vc_apply_Coder_Encode {a0 : Option Addr} {a1 : ByteArray} {R : Sl → World → Prop} {w : World} (h : VC_apply_Coder_Encode a0 a1 R w) : Calls PP n_apply_Coder_Encode #[.pointer a0, .string a1] w fun e w' => ∃ r0 : Sl, e = .returned (r0.v) ∧ R r0 w' := by
  refine Calls.mono (calls_of_cw (n := 31) (rs := #[.tmp 4]) (args := [.pointer a0, .string a1]) (R := fun v w' => ∃ r0 : Sl, v = r0.v ∧ R r0 w') Try.func37 rfl rfl (Nat.le_of_ble_eq_true rfl) rfl ?_) ?_
  case refine_2 => rintro e w' ⟨v, rfl, hr⟩; obtain ⟨r0, rfl, hr⟩ := hr; exact ⟨r0, rfl, hr⟩
  have hx : Ext w w := Chg.refl _
  unfold VC_apply_Coder_Encode at h
  refine cw_seq ?_
  refine cw_region ?_
  refine sl_v rfl (r_as rfl) ?_
  refine sl_nil ?_
  refine cw_seq ?_
  refine cw_seq ?_
  refine cw_region ?_
  refine sl_v rfl (r_mv rfl) ?_
  refine sl_v rfl (p_eqn rfl rfl Try.underlying50) ?_
  refine sl_nil ?_
  refine bcases (decide (a0 = none)) (fun hb1 => ?_) (fun hb1 => ?_)
  · replace h := h.1 (of_decide_eq_true hb1)
    refine cw_ct rfl hb1 ?_
    refine cw_seq ?_
    refine cw_region ?_
    refine sl_v rfl (r_as rfl) ?_
    refine sl_nil ?_
    refine cw_ret ?_
    exact rs_1 (rt rfl) ⟨(⟨none, 0, 0⟩ : Sl), rfl, h⟩
  · replace h := h.2 (of_decide_eq_false hb1)
    refine cw_cf rfl hb1 ?_
    refine cw_skip ?_
    refine cw_seq ?_
    refine cw_region ?_
    refine sl_v rfl (r_mv rfl) ?_
    refine sl_op rfl (ok_call c_seq_New rfl (Calls.mono h (fun e2 w3 hq4 => ?_)))
    clear h
    obtain ⟨r6, he5, h⟩ := hq4
    refine ⟨_, he5, ?_⟩
    replace hx : Ext w3 w3 := Chg.refl _
    refine sl_v rfl (r_as rfl) ?_
    refine sl_nil ?_
    refine cw_seq ?_
    refine cw_region ?_
    refine sl_v rfl (r_as rfl) ?_
    refine sl_nil ?_
    refine cw_block ?_
    obtain ⟨I8, μ9, hI10, h⟩ := h
    refine cw_loop (σ := Int) (fun s g => (upd (upd (upd (nm g []) 0 (.pointer a0)) 5 (.pointer r6)) 6 (.int .i64 s))) (fun s w => I8 s w) (fun s w => μ9 s w) (0) _ (kp (kp (kp (kn rfl) rfl) rfl) rfl) hI10 ?_
    rintro l7 g12 w11 hi13
    replace h := h l7 w11 hi13
    have hx : Ext w11 w11 := Chg.refl _
    change CW _ PP _ _ _ (upd (upd (upd (nm g12 []) 0 (.pointer a0)) 5 (.pointer r6)) 6 (.int .i64 l7)) _
    refine cw_block ?_
    refine cw_seq ?_
    refine cw_region ?_
    refine sl_v rfl (r_mv rfl) ?_
    refine sl_v rfl (r_mv rfl) ?_
    refine sl_v rfl (r_mv rfl) ?_
    refine sl_op rfl (ok_call c_apply_Coder_next rfl (Calls.mono h (fun e14 w15 hq16 => ?_)))
    clear h
    obtain ⟨r18_0_0, r18_0_1, r18_1, r18_2, he17, h⟩ := hq16
    refine ⟨_, he17, ?_⟩
    replace hx : Ext w15 w15 := Chg.refl _
    refine sl_v rfl (r_mv rfl) ?_
    refine sl_v rfl (r_ex rfl rfl) ?_
    refine sl_v rfl (r_ex rfl rfl) ?_
    refine sl_v rfl (r_ex rfl rfl) ?_
    refine sl_op rfl (al_api_Pair rfl (fun b19 w20 hN21 => ?_))
    have hB22 := hN21.here
    replace h := h b19 w20 ⟨hx.tr hN21.ext, Nat.le_trans hx.size hN21.fresh, lt_of_blk hN21.here⟩
    replace hx : Ext w20 w20 := Chg.refl _
    refine sl_op rfl (st_api_Pair (vs := [.int .i64 r18_0_0, .int .i64 r18_0_1]) rfl rfl rfl rfl rfl ⟨_, _, hB22, Nat.le_of_ble_eq_true rfl⟩ (fun w23 hw24 => ?_))
    have hc_ := sto_chg hw24
    replace hB22 : w23.heap[b19]? = some (.cells #[.int .i64 r18_0_0, .int .i64 r18_0_1] t_api_Pair (0, 0)) := sto_blk hw24 hB22
    replace h := h w23 (Chg.pre hx hc_)
    replace hx : Ext w23 w23 := Chg.refl _
    clear hc_
    refine sl_v rfl (r_as rfl) ?_
    refine sl_v rfl (r_as rfl) ?_
    refine sl_nil ?_
    refine cw_seq ?_
    refine cw_seq ?_
    refine cw_region ?_
    refine sl_v rfl (r_mv rfl) ?_
    refine sl_v rfl (r_not rfl) ?_
    refine sl_nil ?_
    refine bcases (r18_2) (fun hb25 => ?_) (fun hb25 => ?_)
    · replace h := h.1 hb25
      refine cw_cf rfl (nt hb25) ?_
      refine cw_skip ?_
      refine cw_seq ?_
      refine cw_region ?_
      refine sl_v rfl (r_mv rfl) ?_
      refine sl_v rfl (lda_api_Pair (vs := [.int .i64 r18_0_0, .int .i64 r18_0_1]) rfl rfl (.c (cell_blk hB22 rfl) (.c (cell_blk hB22 rfl) .n))) ?_
      refine sl_v rfl (r_mv rfl) ?_
      refine sl_op rfl (ok_call c_seq_Seq_Merge rfl (Calls.mono h (fun e26 w27 hq28 => ?_)))
      clear h
      obtain ⟨r30_0, r30_1, he29, hk31, h⟩ := hq28
      refine ⟨_, he29, ?_⟩
      replace hB22 := hk31.trans hB22
      replace hx : Ext w27 w27 := Chg.refl _
      refine sl_nil ?_
      refine cw_region ?_
      refine sl_v rfl (r_mv rfl) ?_
      refine sl_v rfl (r_as rfl) ?_
      refine sl_nil ?_
      exact ⟨(r18_1), _, (kp (kp (kp (kn rfl) rfl) rfl) rfl), h.1, h.2⟩
    · replace h := h.2 hb25
      refine cw_ct rfl (nf hb25) ?_
      refine cw_seq ?_
      refine cw_region ?_
      refine sl_v rfl (r_mv rfl) ?_
      refine sl_op rfl (ok_call c_seq_Seq_Symbols rfl (Calls.mono h (fun e32 w33 hq34 => ?_)))
      clear h
      obtain ⟨r36, he35, hk37, h⟩ := hq34
      refine ⟨_, he35, ?_⟩
      replace hB22 := hk37.trans hB22
      replace hx : Ext w33 w33 := Chg.refl _
      refine sl_v rfl (r_as rfl) ?_
      refine sl_nil ?_
      refine cw_ret ?_
      exact rs_1 (rt rfl) ⟨r36, rfl, h⟩

def VC_ref20_Encode (a0 : Sl) (a1 : ByteArray) (R : Sl → World → Prop) (w : World) : Prop :=
  Calls PP n_ref20_Split #[a0.v, .string a1] w (fun e w2 => ∃ r5 : Sl, e = .returned (r5.v) ∧ (∃ (I8 : Sl → Int → World → Prop) (μ9 : Sl → Int → World → Nat), I8 (⟨none, 0, 0⟩ : Sl) 0 w2 ∧ ∀ (l6 : Sl) (l7 : Int) (w11 : World), I8 l6 l7 w11 → ((l7 < ((r5.n : Nat) : Int) → (∃ k15 : Nat, l7 = ((k15 : Nat) : Int) ∧ k15 < r5.n ∧ (∃ (b17 o18 : Nat), r5.b = some ⟨b17, o18, none⟩ ∧ (∃ v20 : ByteArray, w11.cell? ⟨b17, o18 + k15 * 1, none⟩ = some (.string v20) ∧ (Calls PP n_ref20_Symbol #[a0.v, .string v20] w11 (fun e w23 => ∃ r26 : Int, e = .returned (.int .i64 r26) ∧ (∃ xs35 : List Value, Own w23 t_int 1 l6 xs35 ∧ ((l6.n + 1) * 8 ≤ 140737488355328 ∧ l6.n + 1 ≤ maxLen) ∧ (∀ (s32 : Sl) (w31 : World), App w23 t_int 1 l6 xs35 1 [.int .i64 r26] s32 w31 → (∃ z38 : Int, z38 = IntKind.wrap .i64 (((k15 : Nat) : Int) + 1) ∧ (I8 s32 z38 w31 ∧ μ9 s32 z38 w31 < μ9 l6 l7 w11)))))))))) ∧ (¬ (l7 < ((r5.n : Nat) : Int)) → (R l6 w11)))))
set_option maxRecDepth 100000 in
theorem vc_ref20_Encode {a0 : Sl} {a1 : ByteArray} {R : Sl → World → Prop} {w : World} (h : VC_ref20_Encode a0 a1 R w) : Calls PP n_ref20_Encode #[a0.v, .string a1] w fun e w' => ∃ r0 : Sl, e = .returned (r0.v) ∧ R r0 w' := by
  refine Calls.mono (calls_of_cw (n := 27) (rs := #[.tmp 4]) (args := [a0.v, .string a1]) (R := fun v w' => ∃ r0 : Sl, v = r0.v ∧ R r0 w') Try.func38 rfl rfl (Nat.le_of_ble_eq_true rfl) rfl ?_) ?_
  case refine_2 => rintro e w' ⟨v, rfl, hr⟩; obtain ⟨r0, rfl, hr⟩ := hr; exact ⟨r0, rfl, hr⟩
  have hx : Ext w w := Chg.refl _
  unfold VC_ref20_Encode at h
  refine cw_seq ?_
  refine cw_region ?_
  refine sl_v rfl (r_as rfl) ?_
  refine sl_nil ?_
  refine cw_seq ?_
  refine cw_region ?_
  refine sl_v rfl (r_as rfl) ?_
  refine sl_nil ?_
  refine cw_seq ?_
  refine cw_region ?_
  refine sl_v rfl (r_mv rfl) ?_
  refine sl_v rfl (r_mv rfl) ?_
  refine sl_op rfl (ok_call c_ref20_Split rfl (Calls.mono h (fun e1 w2 hq3 => ?_)))
  clear h
  obtain ⟨r5, he4, h⟩ := hq3
  refine ⟨_, he4, ?_⟩
  replace hx : Ext w2 w2 := Chg.refl _
  refine sl_v rfl (r_as rfl) ?_
  refine sl_nil ?_
  refine cw_seq ?_
  refine cw_seq ?_
  refine cw_region ?_
  refine sl_v rfl (r_as rfl) ?_
  refine sl_nil ?_
  refine cw_block ?_
  obtain ⟨I8, μ9, hI10, h⟩ := h
  refine cw_loop (σ := Sl × Int) (fun s g => (upd (upd (upd (upd (nm g []) 0 (a0.v)) 5 (s.1.v)) 6 (r5.v)) 7 (.int .i64 s.2))) (fun s w => I8 s.1 s.2 w) (fun s w => μ9 s.1 s.2 w) ((⟨none, 0, 0⟩ : Sl), 0) _ (kp (kp (kp (kp (kn rfl) rfl) rfl) rfl) rfl) hI10 ?_
  rintro ⟨l6, l7⟩ g12 w11 hi13
  replace h := h l6 l7 w11 hi13
  have hx : Ext w11 w11 := Chg.refl _
  change CW _ PP _ _ _ (upd (upd (upd (upd (nm g12 []) 0 (a0.v)) 5 (l6.v)) 6 (r5.v)) 7 (.int .i64 l7)) _
  refine cw_seq ?_
  refine cw_seq ?_
  refine cw_region ?_
  refine sl_v rfl (r_mv rfl) ?_
  refine sl_v rfl (r_mv rfl) ?_
  refine sl_v rfl (r_len_l (s := r5) rfl rfl Try.underlying37) ?_
  refine sl_v rfl (r_lss rfl rfl) ?_
  refine sl_nil ?_
  refine bcases (decide (l7 < ((r5.n : Nat) : Int))) (fun hb14 => ?_) (fun hb14 => ?_)
  · replace h := h.1 (of_decide_eq_true hb14)
    refine cw_ct rfl hb14 ?_
    refine cw_skip ?_
    refine cw_seq ?_
    refine cw_block ?_
    refine cw_region ?_
    refine sl_v rfl (r_mv rfl) ?_
    refine sl_v rfl (r_mv rfl) ?_
    refine sl_v rfl (r_mv rfl) ?_
    refine sl_v rfl (r_mv rfl) ?_
    obtain ⟨k15, rfl, hk16, h⟩ := h
    obtain ⟨b17, o18, hb19, h⟩ := h
    refine sl_v rfl (ia_sl_string (s := r5) (j := k15) (o' := o18 + k15 * 1) rfl rfl hk16 hb19 rfl) ?_
    obtain ⟨v20, hc21, h⟩ := h
    refine sl_v rfl (ld_string rfl hc21) ?_
    refine sl_op rfl (ok_call c_ref20_Symbol rfl (Calls.mono h (fun e22 w23 hq24 => ?_)))
    clear h
    obtain ⟨r26, he25, h⟩ := hq24
    refine ⟨_, he25, ?_⟩
    replace hx : Ext w23 w23 := Chg.refl _
    refine sl_op rfl (bs_sl_int (len := 1) (vs := [(0, .int .i64 r26)]) (cs := #[.int .i64 r26]) (by decide) rfl rfl (fun b27 w28 hN29 => ?_))
    have hB30 := hN29.here
    replace hx := hx.tr hN29.ext
    obtain ⟨xs35, ho36, hb37, h⟩ := h
    refine sl_op rfl (ap_sl_int (s := l6) (xs := xs35) (m := 1) (news := [.int .i64 r26]) rfl rfl hx ho36 (.c (cell_blk hB30 rfl) .n) rfl rfl hb37 (fun s32 w31 ha33 hc34 => ?_))
    replace h := h s32 w31 ha33
    replace hx : Ext w31 w31 := Chg.refl _
    refine sl_v rfl (r_as rfl) ?_
    refine sl_nil ?_
    refine cw_region ?_
    refine sl_v rfl (r_mv rfl) ?_
    obtain ⟨z38, hz38, h⟩ := h
    refine sl_v rfl (r_add rfl rfl hz38) ?_
    refine sl_v rfl (r_as rfl) ?_
    refine sl_nil ?_
    exact ⟨(s32, z38), _, (kp (kp (kp (kp (kn rfl) rfl) rfl) rfl) rfl), h.1, h.2⟩
  · replace h := h.2 (of_decide_eq_false hb14)
    refine cw_cf rfl hb14 ?_
    refine cw_exit ?_
    refine cw_seq ?_
    refine cw_region ?_
    refine sl_v rfl (r_mv rfl) ?_
    refine sl_v rfl (r_as rfl) ?_
    refine sl_nil ?_
    refine cw_ret ?_
    exact rs_1 (rt rfl) ⟨l6, rfl, h⟩

def VC_apply_Coder_Size (a0 : Option Addr) (R : Int → World → Prop) (w : World) : Prop :=
  (a0 = none → (R 0 w)) ∧ (¬ (a0 = none) → (∃ (b2 o3 : Nat), a0 = some ⟨b2, o3, none⟩ ∧ (∃ v4 : Option Addr, w.cell? ⟨b2, o3, none⟩ = some (.pointer v4) ∧ (Calls PP n_sym_Table_Len #[.pointer v4] w (fun e w7 => ∃ r10 : Int, e = .returned (.int .i64 r10) ∧ (R r10 w7))))))
set_option maxRecDepth 100000 in
theorem vc_apply_Coder_Size {a0 : Option Addr} {R : Int → World → Prop} {w : World} (h : VC_apply_Coder_Size a0 R w) : Calls PP n_apply_Coder_Size #[.pointer a0] w fun e w' => ∃ r0 : Int, e = .returned (.int .i64 r0) ∧ R r0 w' := by
  refine Calls.mono (calls_of_cw (n := 10) (rs := #[.tmp 2]) (args := [.pointer a0]) (R := fun v w' => ∃ r0 : Int, v = .int .i64 r0 ∧ R r0 w') Try.func39 rfl rfl (Nat.le_of_ble_eq_true rfl) rfl ?_) ?_
  case refine_2 => rintro e w' ⟨v, rfl, hr⟩; obtain ⟨r0, rfl, hr⟩ := hr; exact ⟨r0, rfl, hr⟩
  have hx : Ext w w := Chg.refl _
  unfold VC_apply_Coder_Size at h
  refine cw_seq ?_
  refine cw_region ?_
  refine sl_v rfl (r_as rfl) ?_
  refine sl_nil ?_
  refine cw_seq ?_
  refine cw_seq ?_
  refine cw_region ?_
  refine sl_v rfl (r_mv rfl) ?_
  refine sl_v rfl (p_eqn rfl rfl Try.underlying50) ?_
  refine sl_nil ?_
  refine bcases (decide (a0 = none)) (fun hb1 => ?_) (fun hb1 => ?_)
  · replace h := h.1 (of_decide_eq_true hb1)
    refine cw_ct rfl hb1 ?_
    refine cw_seq ?_
    refine cw_region ?_
    refine sl_v rfl (r_as rfl) ?_
    refine sl_nil ?_
    refine cw_ret ?_
    exact rs_1 (rt rfl) ⟨0, rfl, h⟩
  · replace h := h.2 (of_decide_eq_false hb1)
    refine cw_cf rfl hb1 ?_
    refine cw_skip ?_
    refine cw_seq ?_
    refine cw_region ?_
    refine sl_v rfl (r_mv rfl) ?_
    obtain ⟨b2, o3, rfl, h⟩ := h
    refine sl_v rfl (r_nc rfl) ?_
    refine sl_v rfl (fa_apply_Coder_0 (o' := o3) rfl rfl) ?_
    obtain ⟨v4, hc5, h⟩ := h
    refine sl_v rfl (ld_p_sym_Table rfl hc5) ?_
    refine sl_op rfl (ok_call c_sym_Table_Len rfl (Calls.mono h (fun e6 w7 hq8 => ?_)))
    clear h
    obtain ⟨r10, he9, h⟩ := hq8
    refine ⟨_, he9, ?_⟩
    replace hx : Ext w7 w7 := Chg.refl _
    refine sl_v rfl (r_as rfl) ?_
    refine sl_nil ?_
    refine cw_ret ?_
    exact rs_1 (rt rfl) ⟨r10, rfl, h⟩

def VC_file_Check (a0 : Sl) (R : Int → Int → World → Prop) (w : World) : Prop :=
  Calls PP n_sym_New #[] w (fun e w2 => ∃ r5 : Option Addr, e = .returned (.pointer r5) ∧ (∃ (I7 : Int → World → Prop) (μ8 : Int → World → Nat), I7 0 w2 ∧ ∀ (l6 : Int) (w10 : World), I7 l6 w10 → ((l6 < ((a0.n : Nat) : Int) → (∃ k14 : Nat, l6 = ((k14 : Nat) : Int) ∧ k14 < a0.n ∧ (∃ (b16 o17 : Nat), a0.b = some ⟨b16, o17, none⟩ ∧ (∃ v19_0 : ByteArray, ∃ v19_1 : ByteArray, Cells w10 b16 (o17 + k14 * 2) [.string v19_0, .string v19_1] ∧ (∀ (b21 : Nat) (w22 : World), Priv w10 b21 w22 → (∀ w25 : World, Chg (fun b => b = b21) w22 w25 → (Calls PP n_file_join #[.pointer r5, .agg #[.string v19_0, .string v19_1]] w25 (fun e w28 => ∃ r31 : Int, e = .returned (.int .i64 r31) ∧ w28.heap[b21]? = w25.heap[b21]? ∧ ((r31 ≠ (0 : Int) → (R ((k14 : Nat) : Int) r31 w28)) ∧ (¬ (r31 ≠ (0 : Int)) → (∃ z34 : Int, z34 = IntKind.wrap .i64 (((k14 : Nat) : Int) + 1) ∧ (I7 z34 w28 ∧ μ8 z34 w28 < μ8 l6 w10)))))))))))) ∧ (¬ (l6 < ((a0.n : Nat) : Int)) → (R (-1) 0 w10)))))
set_option maxRecDepth 100000 in
theorem vc_file_Check {a0 : Sl} {R : Int → Int → World → Prop} {w : World} (h : VC_file_Check a0 R w) : Calls PP n_file_Check #[a0.v] w fun e w' => ∃ r0 : Int, ∃ r1 : Int, e = .returned (.tuple #[.int .i64 r0, .int .i64 r1]) ∧ R r0 r1 w' := by
  refine Calls.mono (calls_of_cw (n := 24) (rs := #[.tmp 2, .tmp 3]) (args := [a0.v]) (R := fun v w' => ∃ r0 : Int, ∃ r1 : Int, v = .tuple #[.int .i64 r0, .int .i64 r1] ∧ R r0 r1 w') Try.func40 rfl rfl (Nat.le_of_ble_eq_true rfl) rfl ?_) ?_
  case refine_2 => rintro e w' ⟨v, rfl, hr⟩; obtain ⟨r0, r1, rfl, hr⟩ := hr; exact ⟨r0, r1, rfl, hr⟩
  have hx : Ext w w := Chg.refl _
  unfold VC_file_Check at h
  refine cw_seq ?_
  refine cw_region ?_
  refine sl_v rfl (r_as rfl) ?_
  refine sl_v rfl (r_as rfl) ?_
  refine sl_nil ?_
  refine cw_seq ?_
  refine cw_region ?_
  refine sl_op rfl (ok_call c_sym_New rfl (Calls.mono h (fun e1 w2 hq3 => ?_)))
  clear h
  obtain ⟨r5, he4, h⟩ := hq3
  refine ⟨_, he4, ?_⟩
  replace hx : Ext w2 w2 := Chg.refl _
  refine sl_v rfl (r_as rfl) ?_
  refine sl_nil ?_
  refine cw_seq ?_
  refine cw_seq ?_
  refine cw_region ?_
  refine sl_v rfl (r_mv rfl) ?_
  refine sl_v rfl (r_len_l (s := a0) rfl rfl Try.underlying22) ?_
  refine sl_v rfl (r_mv rfl) ?_
  refine sl_nil ?_
  refine cw_block ?_
  obtain ⟨I7, μ8, hI9, h⟩ := h
  refine cw_loop (σ := Int) (fun s g => (upd (upd (upd (upd (nm g []) 4 (.pointer r5)) 9 (a0.v)) 10 (.int .i64 ((a0.n : Nat) : Int))) 11 (.int .i64 s))) (fun s w => I7 s w) (fun s w => μ8 s w) (0) _ (kp (kp (kp (kp (kn rfl) rfl) rfl) rfl) rfl) hI9 ?_
  rintro l6 g11 w10 hi12
  replace h := h l6 w10 hi12
  have hx : Ext w10 w10 := Chg.refl _
  change CW _ PP _ _ _ (upd (upd (upd (upd (nm g11 []) 4 (.pointer r5)) 9 (a0.v)) 10 (.int .i64 ((a0.n : Nat) : Int))) 11 (.int .i64 l6)) _
  refine cw_seq ?_
  refine cw_region ?_
  refine sl_v rfl (r_lss rfl rfl) ?_
  refine sl_nil ?_
  refine cw_seq ?_
  refine bcases (decide (l6 < ((a0.n : Nat) : Int))) (fun hb13 => ?_) (fun hb13 => ?_)
  · replace h := h.1 (of_decide_eq_true hb13)
    refine cw_ct rfl hb13 ?_
    refine cw_skip ?_
    refine cw_seq ?_
    refine cw_block ?_
    refine cw_seq ?_
    refine cw_region ?_
    refine sl_v rfl (r_mv rfl) ?_
    obtain ⟨k14, rfl, hk15, h⟩ := h
    obtain ⟨b16, o17, hb18, h⟩ := h
    refine sl_v rfl (ia_sl_api_Merge (s := a0) (j := k14) (o' := o17 + k14 * 2) rfl rfl hk15 hb18 rfl) ?_
    obtain ⟨v19_0, v19_1, hc20, h⟩ := h
    refine sl_v rfl (lda_api_Merge rfl rfl hc20) ?_
    refine sl_op rfl (al_api_Merge rfl (fun b21 w22 hN23 => ?_))
    have hB24 := hN23.here
    replace h := h b21 w22 ⟨hx.tr hN23.ext, Nat.le_trans hx.size hN23.fresh, lt_of_blk hN23.here⟩
    replace hx : Ext w22 w22 := Chg.refl _
    refine sl_v rfl (r_as rfl) ?_
    refine sl_op rfl (st_api_Merge (vs := [.string v19_0, .string v19_1]) rfl rfl rfl rfl rfl ⟨_, _, hB24, Nat.le_of_ble_eq_true rfl⟩ (fun w25 hw26 => ?_))
    have hc_ := sto_chg hw26
    replace hB24 : w25.heap[b21]? = some (.cells #[.string v19_0, .string v19_1] t_api_Merge (0, 0)) := sto_blk hw26 hB24
    replace h := h w25 (Chg.pre hx hc_)
    replace hx : Ext w25 w25 := Chg.refl _
    clear hc_
    refine sl_nil ?_
    refine cw_seq ?_
    refine cw_region ?_
    refine sl_v rfl (r_mv rfl) ?_
    refine sl_v rfl (lda_api_Merge (vs := [.string v19_0, .string v19_1]) rfl rfl (.c (cell_blk hB24 rfl) (.c (cell_blk hB24 rfl) .n))) ?_
    refine sl_op rfl (ok_call c_file_join rfl (Calls.mono h (fun e27 w28 hq29 => ?_)))
    clear h
    obtain ⟨r31, he30, hk32, h⟩ := hq29
    refine ⟨_, he30, ?_⟩
    replace hB24 := hk32.trans hB24
    replace hx : Ext w28 w28 := Chg.refl _
    refine sl_v rfl (r_as rfl) ?_
    refine sl_nil ?_
    refine cw_seq ?_
    refine cw_region ?_
    refine sl_v rfl (r_mv rfl) ?_
    refine sl_v rfl (r_neq rfl rfl) ?_
    refine sl_nil ?_
    refine bcases (decide (r31 ≠ (0 : Int))) (fun hb33 => ?_) (fun hb33 => ?_)
    · replace h := h.1 (of_decide_eq_true hb33)
      refine cw_ct rfl hb33 ?_
      refine cw_seq ?_
      refine cw_region ?_
      refine sl_v rfl (r_mv rfl) ?_
      refine sl_v rfl (r_mv rfl) ?_
      refine sl_v rfl (r_as rfl) ?_
      refine sl_v rfl (r_as rfl) ?_
      refine sl_nil ?_
      refine cw_ret ?_
      exact rs_2 (rt rfl) (rt rfl) ⟨((k14 : Nat) : Int), r31, rfl, h⟩
    · replace h := h.2 (of_decide_eq_false hb33)
      refine cw_cf rfl hb33 ?_
      refine cw_skip ?_
      refine cw_region ?_
      obtain ⟨z34, hz34, h⟩ := h
      refine sl_v rfl (r_add rfl rfl hz34) ?_
      refine sl_v rfl (r_mv rfl) ?_
      refine sl_nil ?_
      exact ⟨(z34), _, (kp (kp (kp (kp (kn rfl) rfl) rfl) rfl) rfl), h.1, h.2⟩
  · replace h := h.2 (of_decide_eq_false hb13)
    refine cw_cf rfl hb13 ?_
    refine cw_exit ?_
    refine cw_seq ?_
    refine cw_region ?_
    refine sl_v rfl (r_as rfl) ?_
    refine sl_v rfl (r_as rfl) ?_
    refine sl_nil ?_
    refine cw_ret ?_
    exact rs_2 (rt rfl) (rt rfl) ⟨(-1), 0, rfl, h⟩

def VC_ref18_side (a0 : ByteArray) (a1 : Sl) (R : Bool → World → Prop) (w : World) : Prop :=
  (((a0.size : Nat) : Int) = (1 : Int) → (R true w)) ∧ (¬ (((a0.size : Nat) : Int) = (1 : Int)) → (∃ (I3 : Int → World → Prop) (μ4 : Int → World → Nat), I3 0 w ∧ ∀ (l2 : Int) (w6 : World), I3 l2 w6 → ((l2 < ((a1.n : Nat) : Int) → (∃ k12 : Nat, l2 = ((k12 : Nat) : Int) ∧ k12 < a1.n ∧ (∃ (b14 o15 : Nat), a1.b = some ⟨b14, o15, none⟩ ∧ (∃ v17 : ByteArray, w6.cell? ⟨b14, o15 + k12 * 2, none⟩ = some (.string v17) ∧ (∃ v19 : ByteArray, w6.cell? ⟨b14, o15 + k12 * 2 + 1, none⟩ = some (.string v19) ∧ (v17.size + v19.size ≤ 9223372036854775807 ∧ (((v17 ++ v19) = a0 → (∀ w10 : World, Ext w6 w10 → (R true w10))) ∧ (¬ ((v17 ++ v19) = a0) → (∃ z24 : Int, z24 = IntKind.wrap .i64 (((k12 : Nat) : Int) + 1) ∧ (∀ w10 : World, Ext w6 w10 → (I3 z24 w10 ∧ μ4 z24 w10 < μ4 l2 w6))))))))))) ∧ (¬ (l2 < ((a1.n : Nat) : Int)) → (R false w6)))))
set_option maxRecDepth 100000 in
theorem vc_ref18_side {a0 : ByteArray} {a1 : Sl} {R : Bool → World → Prop} {w : World} (h : VC_ref18_side a0 a1 R w) : Calls PP n_ref18_side #[.string a0, a1.v] w fun e w' => ∃ r0 : Bool, e = .returned (.bool r0) ∧ R r0 w' := by
  refine Calls.mono (calls_of_cw (n := 28) (rs := #[.tmp 4]) (args := [.string a0, a1.v]) (R := fun v w' => ∃ r0 : Bool, v = .bool r0 ∧ R r0 w') Try.func41 rfl rfl (Nat.le_of_ble_eq_true rfl) rfl ?_) ?_
  case refine_2 => rintro e w' ⟨v, rfl, hr⟩; obtain ⟨r0, rfl, hr⟩ := hr; exact ⟨r0, rfl, hr⟩
  have hx : Ext w w := Chg.refl _
  unfold VC_ref18_side at h
  refine cw_seq ?_
  refine cw_region ?_
  refine sl_v rfl (r_as rfl) ?_
  refine sl_nil ?_
  refine cw_seq ?_
  refine cw_seq ?_
  refine cw_region ?_
  refine sl_v rfl (r_mv rfl) ?_
  refine sl_v rfl (r_len_s rfl rfl Try.underlying9) ?_
  refine sl_v rfl (r_eql rfl rfl) ?_
  refine sl_nil ?_
  refine bcases (decide (((a0.size : Nat) : Int) = (1 : Int))) (fun hb1 => ?_) (fun hb1 => ?_)
  · replace h := h.1 (of_decide_eq_true hb1)
    refine cw_ct rfl hb1 ?_
    refine cw_seq ?_
    refine cw_region ?_
    refine sl_v rfl (r_as rfl) ?_
    refine sl_nil ?_
    refine cw_ret ?_
    exact rs_1 (rt rfl) ⟨true, rfl, h⟩
  · replace h := h.2 (of_decide_eq_false hb1)
    refine cw_cf rfl hb1 ?_
    refine cw_skip ?_
    refine cw_seq ?_
    refine cw_seq ?_
    refine cw_region ?_
    refine sl_v rfl (r_as rfl) ?_
    refine sl_nil ?_
    refine cw_block ?_
    obtain ⟨I3, μ4, hI5, h⟩ := h
    refine cw_loop (σ := Int) (fun s g => (upd (upd (upd (nm g []) 0 (.string a0)) 1 (a1.v)) 5 (.int .i64 s))) (fun s w => I3 s w) (fun s w => μ4 s w) (0) _ (kp (kp (kp (kn rfl) rfl) rfl) rfl) hI5 ?_
    rintro l2 g7 w6 hi8
    replace h := h l2 w6 hi8
    have hx : Ext w6 w6 := Chg.refl _
    change CW _ PP _ _ _ (upd (upd (upd (nm g7 []) 0 (.string a0)) 1 (a1.v)) 5 (.int .i64 l2)) _
    refine cw_seq ?_
    refine cw_seq ?_
    refine cw_region ?_
    refine sl_v rfl (r_mv rfl) ?_
    refine sl_v rfl (r_mv rfl) ?_
    refine sl_v rfl (r_len_l (s := a1) rfl rfl Try.underlying22) ?_
    refine sl_v rfl (r_lss rfl rfl) ?_
    refine sl_nil ?_
    refine bcases (decide (l2 < ((a1.n : Nat) : Int))) (fun hb9 => ?_) (fun hb9 => ?_)
    · replace h := h.1 (of_decide_eq_true hb9)
      refine cw_ct rfl hb9 ?_
      refine cw_skip ?_
      refine cw_seq ?_
      refine cw_block ?_
      refine cw_seq ?_
      refine cw_still mo (by kernel_rfl) (fun w10 hd11 => ?_)
      replace hx := hx.tr (Ext.of_drew hd11)
      refine st_v rfl (r_mv rfl) ?_
      refine st_v rfl (r_mv rfl) ?_
      obtain ⟨k12, rfl, hk13, h⟩ := h
      obtain ⟨b14, o15, hb16, h⟩ := h
      refine st_v rfl (ia_sl_api_Merge (s := a1) (j := k12) (o' := o15 + k12 * 2) rfl rfl hk13 hb16 rfl) ?_
      refine st_v rfl (fa_api_Merge_0 (o' := o15 + k12 * 2) rfl rfl) ?_
      obtain ⟨v17, hc18, h⟩ := h
      refine st_v rfl (ld_string rfl (hx.cell hc18)) ?_
      refine st_v rfl (r_mv rfl) ?_
      refine st_v rfl (r_mv rfl) ?_
      refine st_v rfl (ia_sl_api_Merge (s := a1) (j := k12) (o' := o15 + k12 * 2) rfl rfl hk13 hb16 rfl) ?_
      refine st_v rfl (fa_api_Merge_1 (o' := o15 + k12 * 2 + 1) rfl rfl) ?_
      obtain ⟨v19, hc20, h⟩ := h
      refine st_v rfl (ld_string rfl (hx.cell hc20)) ?_
      obtain ⟨hs21, h⟩ := h
      refine st_v rfl (s_cat rfl rfl hs21) ?_
      refine st_v rfl (r_mv rfl) ?_
      refine st_v rfl (s_eql rfl rfl) ?_
      refine st_nil ?_
      refine bcases (decide ((v17 ++ v19) = a0)) (fun hb22 => ?_) (fun hb22 => ?_)
      · replace h := h.1 (of_decide_eq_true hb22)
        refine cw_ct rfl hb22 ?_
        refine cw_seq ?_
        refine cw_region ?_
        refine sl_v rfl (r_as rfl) ?_
        refine sl_nil ?_
        refine cw_ret ?_
        replace h := h _ hx
        replace hx : Ext w10 w10 := Chg.refl _
        exact rs_1 (rt rfl) ⟨true, rfl, h⟩
      · replace h := h.2 (of_decide_eq_false hb22)
        refine cw_cf rfl hb22 ?_
        refine cw_skip ?_
        refine cw_region ?_
        refine sl_v rfl (r_mv rfl) ?_
        obtain ⟨z24, hz24, h⟩ := h
        refine sl_v rfl (r_add rfl rfl hz24) ?_
        refine sl_v rfl (r_as rfl) ?_
        refine sl_nil ?_
        replace h := h _ hx
        replace hx : Ext w10 w10 := Chg.refl _
        exact ⟨(z24), _, (kp (kp (kp (kn rfl) rfl) rfl) rfl), h.1, h.2⟩
    · replace h := h.2 (of_decide_eq_false hb9)
      refine cw_cf rfl hb9 ?_
      refine cw_exit ?_
      refine cw_seq ?_
      refine cw_region ?_
      refine sl_v rfl (r_as rfl) ?_
      refine sl_nil ?_
      refine cw_ret ?_
      exact rs_1 (rt rfl) ⟨false, rfl, h⟩
def VC_ref01_Less (a0 : ByteArray) (a1 : ByteArray) (R : Bool → World → Prop) (w : World) : Prop :=
  ∃ K1 : World → Prop, (∀ (w3 : World), K1 w3 → (R (decide (((a0.size : Nat) : Int) < ((a1.size : Nat) : Int))) w3)) ∧ (∃ (I7 : Int → World → Prop) (μ8 : Int → World → Nat), I7 0 w ∧ ∀ (l6 : Int) (w10 : World), I7 l6 w10 → ((l6 < ((a0.size : Nat) : Int) → ((l6 < ((a1.size : Nat) : Int) → (∃ k17 : Nat, l6 = ((k17 : Nat) : Int) ∧ k17 < a0.size ∧ (k17 < a1.size ∧ (((((a0.data.toList.getD k17 0).toNat : Nat) : Int) ≠ (((a1.data.toList.getD k17 0).toNat : Nat) : Int) → (∀ w21 : World, Ext w10 w21 → (R (decide ((((a0.data.toList.getD k17 0).toNat : Nat) : Int) < (((a1.data.toList.getD k17 0).toNat : Nat) : Int))) w21))) ∧ (¬ ((((a0.data.toList.getD k17 0).toNat : Nat) : Int) ≠ (((a1.data.toList.getD k17 0).toNat : Nat) : Int)) → (∃ z24 : Int, z24 = IntKind.wrap .i64 (((k17 : Nat) : Int) + 1) ∧ (∀ w15 : World, Ext w10 w15 → (I7 z24 w15 ∧ μ8 z24 w15 < μ8 l6 w10)))))))) ∧ (¬ (l6 < ((a1.size : Nat) : Int)) → (K1 w10)))) ∧ (¬ (l6 < ((a0.size : Nat) : Int)) → (K1 w10))))
set_option maxRecDepth 100000 in
theorem vc_ref01_Less {a0 : ByteArray} {a1 : ByteArray} {R : Bool → World → Prop} {w : World} (h : VC_ref01_Less a0 a1 R w) : Calls PP n_ref01_Less #[.string a0, .string a1] w fun e w' => ∃ r0 : Bool, e = .returned (.bool r0) ∧ R r0 w' := by
  refine Calls.mono (calls_of_cw (n := 37) (rs := #[.tmp 4]) (args := [.string a0, .string a1]) (R := fun v w' => ∃ r0 : Bool, v = .bool r0 ∧ R r0 w') Try.func43 rfl rfl (Nat.le_of_ble_eq_true rfl) rfl ?_) ?_
  case refine_2 => rintro e w' ⟨v, rfl, hr⟩; obtain ⟨r0, rfl, hr⟩ := hr; exact ⟨r0, rfl, hr⟩
  have hx : Ext w w := Chg.refl _
  unfold VC_ref01_Less at h
  refine cw_seq ?_
  refine cw_region ?_
  refine sl_v rfl (r_as rfl) ?_
  refine sl_nil ?_
  obtain ⟨K1, hK2, h⟩ := h
  refine cw_mid (fun f w => ∃ (g : Env), f = (upd (upd (nm g []) 0 (.string a0)) 1 (.string a1)) ∧ K1 w) ?_ (fun _ w3 hM5 => ?_)
  ·
    refine cw_seq ?_
    refine cw_region ?_
    refine sl_v rfl (r_as rfl) ?_
    refine sl_nil ?_
    refine cw_block ?_
    obtain ⟨I7, μ8, hI9, h⟩ := h
    refine cw_loop (σ := Int) (fun s g => (upd (upd (upd (nm g []) 0 (.string a0)) 1 (.string a1)) 5 (.int .i64 s))) (fun s w => I7 s w) (fun s w => μ8 s w) (0) _ (kp (kp (kp (kn rfl) rfl) rfl) rfl) hI9 ?_
    rintro l6 g11 w10 hi12
    replace h := h l6 w10 hi12
    have hx : Ext w10 w10 := Chg.refl _
    change CW _ PP _ _ _ (upd (upd (upd (nm g11 []) 0 (.string a0)) 1 (.string a1)) 5 (.int .i64 l6)) _
    refine cw_seq ?_
    refine cw_seq ?_
    refine cw_region ?_
    refine sl_v rfl (r_mv rfl) ?_
    refine sl_v rfl (r_mv rfl) ?_
    refine sl_v rfl (r_len_s rfl rfl Try.underlying9) ?_
    refine sl_v rfl (r_lss rfl rfl) ?_
    refine sl_v rfl (r_mv rfl) ?_
    refine bcases (decide (l6 < ((a0.size : Nat) : Int))) (fun hb13 => ?_) (fun hb13 => ?_)
    · replace h := h.1 (of_decide_eq_true hb13)
      refine sl_vg rfl rfl rfl hb13 (r_mv rfl) ?_
      refine sl_vg rfl rfl rfl hb13 (r_mv rfl) ?_
      refine sl_vg rfl rfl rfl hb13 (r_len_s rfl rfl Try.underlying9) ?_
      refine sl_vg rfl rfl rfl hb13 (r_lss rfl rfl) ?_
      refine sl_v rfl (r_pt rfl hb13 rfl) ?_
      refine sl_nil ?_
      refine bcases (decide (l6 < ((a1.size : Nat) : Int))) (fun hb14 => ?_) (fun hb14 => ?_)
      · replace h := h.1 (of_decide_eq_true hb14)
        refine cw_ct rfl hb14 ?_
        refine cw_skip ?_
        refine cw_seq ?_
        refine cw_block ?_
        refine cw_seq ?_
        refine cw_still mo (by kernel_rfl) (fun w15 hd16 => ?_)
        replace hx := hx.tr (Ext.of_drew hd16)
        refine st_v rfl (r_mv rfl) ?_
        refine st_v rfl (r_mv rfl) ?_
        obtain ⟨k17, rfl, hk18, h⟩ := h
        refine st_v rfl (r_ix (j := k17) rfl rfl Try.underlying9 hk18) ?_
        refine st_v rfl (r_mv rfl) ?_
        refine st_v rfl (r_mv rfl) ?_
        obtain ⟨hk19, h⟩ := h
        refine st_v rfl (r_ix (j := k17) rfl rfl Try.underlying9 hk19) ?_
        refine st_v rfl (r_neq rfl rfl) ?_
        refine st_nil ?_
        refine bcases (decide ((((a0.data.toList.getD k17 0).toNat : Nat) : Int) ≠ (((a1.data.toList.getD k17 0).toNat : Nat) : Int))) (fun hb20 => ?_) (fun hb20 => ?_)
        · replace h := h.1 (of_decide_eq_true hb20)
          refine cw_ct rfl hb20 ?_
          refine cw_seq ?_
          refine cw_still mo (by kernel_rfl) (fun w21 hd22 => ?_)
          replace hx := hx.tr (Ext.of_drew hd22)
          refine st_v rfl (r_mv rfl) ?_
          refine st_v rfl (r_mv rfl) ?_
          refine st_v rfl (r_ix (j := k17) rfl rfl Try.underlying9 hk18) ?_
          refine st_v rfl (r_mv rfl) ?_
          refine st_v rfl (r_mv rfl) ?_
          refine st_v rfl (r_ix (j := k17) rfl rfl Try.underlying9 hk19) ?_
          refine st_v rfl (r_lss rfl rfl) ?_
          refine st_v rfl (r_as rfl) ?_
          refine st_nil ?_
          refine cw_ret ?_
          replace h := h _ hx
          replace hx : Ext w21 w21 := Chg.refl _
          exact rs_1 (rt rfl) ⟨decide ((((a0.data.toList.getD k17 0).toNat : Nat) : Int) < (((a1.data.toList.getD k17 0).toNat : Nat) : Int)), rfl, h⟩
        · replace h := h.2 (of_decide_eq_false hb20)
          refine cw_cf rfl hb20 ?_
          refine cw_skip ?_
          refine cw_region ?_
          refine sl_v rfl (r_mv rfl) ?_
          obtain ⟨z24, hz24, h⟩ := h
          refine sl_v rfl (r_add rfl rfl hz24) ?_
          refine sl_v rfl (r_as rfl) ?_
          refine sl_nil ?_
          replace h := h _ hx
          replace hx : Ext w15 w15 := Chg.refl _
          exact ⟨(z24), _, (kp (kp (kp (kn rfl) rfl) rfl) rfl), h.1, h.2⟩
      · replace h := h.2 (of_decide_eq_false hb14)
        refine cw_cf rfl hb14 ?_
        refine cw_exit ?_
        exact ⟨_, (kp (kp (kn rfl) rfl) rfl), h⟩
    · replace h := h.2 (of_decide_eq_false hb13)
      refine sl_no rfl rfl rfl hb13 ?_
      refine sl_no rfl rfl rfl hb13 ?_
      refine sl_no rfl rfl rfl hb13 ?_
      refine sl_no rfl rfl rfl hb13 ?_
      refine sl_v rfl (r_pf rfl hb13 rfl) ?_
      refine sl_nil ?_
      refine cw_cf rfl rfl ?_
      refine cw_exit ?_
      exact ⟨_, (kp (kp (kn rfl) rfl) rfl), h⟩
  ·
    obtain ⟨g4, rfl, hM5⟩ := hM5
    replace h := hK2 w3 hM5
    have hx : Ext w3 w3 := Chg.refl _
    refine cw_seq ?_
    refine cw_region ?_
    refine sl_v rfl (r_mv rfl) ?_
    refine sl_v rfl (r_len_s rfl rfl Try.underlying9) ?_
    refine sl_v rfl (r_mv rfl) ?_
    refine sl_v rfl (r_len_s rfl rfl Try.underlying9) ?_
    refine sl_v rfl (r_lss rfl rfl) ?_
    refine sl_v rfl (r_as rfl) ?_
    refine sl_nil ?_
    refine cw_ret ?_
    exact rs_1 (rt rfl) ⟨decide (((a0.size : Nat) : Int) < ((a1.size : Nat) : Int)), rfl, h⟩

end Go.Proofs.Ytchjcjocihckpaa.G
