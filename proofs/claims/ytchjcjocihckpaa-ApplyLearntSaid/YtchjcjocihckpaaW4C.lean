/- What is to be shown of each function, and that it is enough. -/
import Derived.Test.YtchjcjocihckpaaTC
set_option linter.unusedVariables false
namespace Go.Proofs.Ytchjcjocihckpaa.G
open Go Go.RowKit
def VC_sym_Table_Join (a0 : Option Addr) (a1 : Int) (a2 : Int) (R : Int → Int → World → Prop) (w : World) : Prop :=
  Calls PP n_sym_Table_Text #[.pointer a0, .int .i64 a1] w (fun e w2 => ∃ r5_0 : ByteArray, ∃ r5_1 : Bool, e = .returned (.tuple #[.string r5_0, .bool r5_1]) ∧ (Calls PP n_sym_Table_Text #[.pointer a0, .int .i64 a2] w2 (fun e w7 => ∃ r10_0 : ByteArray, ∃ r10_1 : Bool, e = .returned (.tuple #[.string r10_0, .bool r10_1]) ∧ (∃ K12 : Bool → World → Prop, (∀ (j11 : Bool) (w14 : World), K12 j11 w14 → ((j11 = true → (R 0 1 w14)) ∧ (j11 = false → (∃ z19 : Int, z19 = IntKind.wrap .i64 (((r5_0.size : Nat) : Int) + ((r10_0.size : Nat) : Int)) ∧ (((65536 : Int) < z19 → (R 0 4 w14)) ∧ (¬ ((65536 : Int) < z19) → (r5_0.size + r10_0.size ≤ 9223372036854775807 ∧ (Calls PP n_sym_Table_Find #[.pointer a0, .string (r5_0 ++ r10_0)] w14 (fun e w23 => ∃ r26_0 : Int, ∃ r26_1 : Bool, e = .returned (.tuple #[.int .i64 r26_0, .bool r26_1]) ∧ ((r26_1 = true → (R 0 8 w23)) ∧ (r26_1 = false → (∃ K28 : World → Prop, (∀ (w30 : World), K28 w30 → (Calls PP n_sym_Table_Len #[.pointer a0] w30 (fun e w45 => ∃ r48 : Int, e = .returned (.int .i64 r48) ∧ (∃ (b49 o50 : Nat), a0 = some ⟨b49, o50, none⟩ ∧ (∃ v51 : Option Nat, w45.cell? ⟨b49, o50 + 1, none⟩ = some (.map v51) ∧ (∃ b57 : Nat, v51 = some b57 ∧ (∃ es58 : List (ByteArray × Int), Mp strV intV w45 (some b57) es58 ∧ (∀ w53 : World, Mp strV intV w53 (some b57) (mput (r5_0 ++ r10_0) r48 es58) → Chg (fun x => x = b57) w45 w53 → (∃ v59 : Sl, w53.cell? ⟨b49, o50, none⟩ = some (v59.v) ∧ (∃ xs69 : List Value, Own w53 t_sym_joined 3 v59 xs69 ∧ ((v59.n + 1) * 32 ≤ 140737488355328 ∧ v59.n + 1 ≤ maxLen) ∧ (∀ (s66 : Sl) (w65 : World), App w53 t_sym_joined 3 v59 xs69 1 [.int .i64 a1, .int .i64 a2, .string (r5_0 ++ r10_0)] s66 w65 → (Wr w65 b49 o50 1 ∧ (∀ w72 : World, w72 = setCells w65 b49 o50 [s66.v] → (R r48 0 w72)))))))))))))) ∧ (∃ (b33 o34 : Nat), a0 = some ⟨b33, o34, none⟩ ∧ (∃ v35 : Option Nat, w23.cell? ⟨b33, o34 + 1, none⟩ = some (.map v35) ∧ ((v35 = none → (∀ (b38 : Nat) (w39 : World), New w23 b38 (.map #[] 0) w39 → (Wr w39 b33 (o34 + 1) 1 ∧ (∀ w41 : World, w41 = setCells w39 b33 (o34 + 1) [.map (some b38)] → (K28 w41))))) ∧ (¬ (v35 = none) → (K28 w23))))))))))))))))) ∧ ((r5_1 = true → (K12 (!r10_1) w7)) ∧ (r5_1 = false → (K12 true w7)))))))
set_option maxRecDepth 100000 in
theorem vc_sym_Table_Join {a0 : Option Addr} {a1 : Int} {a2 : Int} {R : Int → Int → World → Prop} {w : World} (h : VC_sym_Table_Join a0 a1 a2 R w) : Calls PP n_sym_Table_Join #[.pointer a0, .int .i64 a1, .int .i64 a2] w fun e w' => ∃ r0 : Int, ∃ r1 : Int, e = .returned (.tuple #[.int .i64 r0, .int .i64 r1]) ∧ R r0 r1 w' := by
  refine Calls.mono (calls_of_cw (n := 84) (rs := #[.tmp 6, .tmp 7]) (args := [.pointer a0, .int .i64 a1, .int .i64 a2]) (R := fun v w' => ∃ r0 : Int, ∃ r1 : Int, v = .tuple #[.int .i64 r0, .int .i64 r1] ∧ R r0 r1 w') Try.func54 rfl rfl (Nat.le_of_ble_eq_true rfl) rfl ?_) ?_
  case refine_2 => rintro e w' ⟨v, rfl, hr⟩; obtain ⟨r0, r1, rfl, hr⟩ := hr; exact ⟨r0, r1, rfl, hr⟩
  have hx : Ext w w := Chg.refl _
  unfold VC_sym_Table_Join at h
  refine cw_seq ?_
  refine cw_region ?_
  refine sl_v rfl (r_as rfl) ?_
  refine sl_v rfl (r_as rfl) ?_
  refine sl_nil ?_
  refine cw_seq ?_
  refine cw_region ?_
  refine sl_v rfl (r_mv rfl) ?_
  refine sl_v rfl (r_mv rfl) ?_
  refine sl_op rfl (ok_call c_sym_Table_Text rfl (Calls.mono h (fun e1 w2 hq3 => ?_)))
  clear h
  obtain ⟨r5_0, r5_1, he4, h⟩ := hq3
  refine ⟨_, he4, ?_⟩
  replace hx : Ext w2 w2 := Chg.refl _
  refine sl_v rfl (r_mv rfl) ?_
  refine sl_v rfl (r_ex rfl rfl) ?_
  refine sl_v rfl (r_ex rfl rfl) ?_
  refine sl_v rfl (r_as rfl) ?_
  refine sl_v rfl (r_as rfl) ?_
  refine sl_nil ?_
  refine cw_seq ?_
  refine cw_region ?_
  refine sl_v rfl (r_mv rfl) ?_
  refine sl_v rfl (r_mv rfl) ?_
  refine sl_op rfl (ok_call c_sym_Table_Text rfl (Calls.mono h (fun e6 w7 hq8 => ?_)))
  clear h
  obtain ⟨r10_0, r10_1, he9, h⟩ := hq8
  refine ⟨_, he9, ?_⟩
  replace hx : Ext w7 w7 := Chg.refl _
  refine sl_v rfl (r_mv rfl) ?_
  refine sl_v rfl (r_ex rfl rfl) ?_
  refine sl_v rfl (r_ex rfl rfl) ?_
  refine sl_v rfl (r_as rfl) ?_
  refine sl_v rfl (r_as rfl) ?_
  refine sl_nil ?_
  refine cw_seq ?_
  refine cw_block ?_
  obtain ⟨K12, hK13, h⟩ := h
  refine cw_mid (fun f w => ∃ (g : Env) (j11 : Bool), f = (upd (upd (upd (upd (upd (upd (nm g []) 0 (.pointer a0)) 1 (.int .i64 a1)) 2 (.int .i64 a2)) 8 (.string r5_0)) 10 (.string r10_0)) 28 (.bool j11)) ∧ K12 j11 w) ?_ (fun _ w14 hM16 => ?_)
  ·
    refine cw_region ?_
    refine sl_v rfl (r_mv rfl) ?_
    refine sl_v rfl (r_not rfl) ?_
    refine sl_v rfl (r_mv rfl) ?_
    refine bcases (r5_1) (fun hb17 => ?_) (fun hb17 => ?_)
    · replace h := h.1 hb17
      refine sl_vg rfl rfl rfl (nt hb17) (r_mv rfl) ?_
      refine sl_vg rfl rfl rfl (nt hb17) (r_not rfl) ?_
      refine sl_v rfl (r_pf rfl (nt hb17) rfl) ?_
      refine sl_v rfl (r_as rfl) ?_
      refine sl_nil ?_
      exact ⟨_, !r10_1, (kp (kp (kp (kp (kp (kp (kn rfl) rfl) rfl) rfl) rfl) rfl) rfl), h⟩
    · replace h := h.2 hb17
      refine sl_no rfl rfl rfl (nf hb17) ?_
      refine sl_no rfl rfl rfl (nf hb17) ?_
      refine sl_v rfl (r_pt rfl (nf hb17) rfl) ?_
      refine sl_v rfl (r_as rfl) ?_
      refine sl_nil ?_
      exact ⟨_, true, (kp (kp (kp (kp (kp (kp (kn rfl) rfl) rfl) rfl) rfl) rfl) rfl), h⟩
  ·
    obtain ⟨g15, j11, rfl, hM16⟩ := hM16
    replace h := hK13 j11 w14 hM16
    have hx : Ext w14 w14 := Chg.refl _
    refine bcases (j11) (fun hb18 => ?_) (fun hb18 => ?_)
    · replace h := h.1 hb18
      refine cw_ct rfl hb18 ?_
      refine cw_seq ?_
      refine cw_region ?_
      refine sl_v rfl (r_as rfl) ?_
      refine sl_v rfl (r_as rfl) ?_
      refine sl_nil ?_
      refine cw_ret ?_
      exact rs_2 (rt rfl) (rt rfl) ⟨0, 1, rfl, h⟩
    · replace h := h.2 hb18
      refine cw_cf rfl hb18 ?_
      refine cw_seq ?_
      refine cw_region ?_
      refine sl_v rfl (r_mv rfl) ?_
      refine sl_v rfl (r_len_s rfl rfl Try.underlying9) ?_
      refine sl_v rfl (r_mv rfl) ?_
      refine sl_v rfl (r_len_s rfl rfl Try.underlying9) ?_
      obtain ⟨z19, hz19, h⟩ := h
      refine sl_v rfl (r_add rfl rfl hz19) ?_
      refine sl_v rfl (r_gtr rfl rfl) ?_
      refine sl_v rfl (r_as rfl) ?_
      refine sl_nil ?_
      refine bcases (decide ((65536 : Int) < z19)) (fun hb20 => ?_) (fun hb20 => ?_)
      · replace h := h.1 (of_decide_eq_true hb20)
        refine cw_ct rfl hb20 ?_
        refine cw_seq ?_
        refine cw_region ?_
        refine sl_v rfl (r_as rfl) ?_
        refine sl_v rfl (r_as rfl) ?_
        refine sl_nil ?_
        refine cw_ret ?_
        exact rs_2 (rt rfl) (rt rfl) ⟨0, 4, rfl, h⟩
      · replace h := h.2 (of_decide_eq_false hb20)
        refine cw_cf rfl hb20 ?_
        refine cw_skip ?_
        refine cw_seq ?_
        refine cw_region ?_
        refine sl_v rfl (r_mv rfl) ?_
        refine sl_v rfl (r_mv rfl) ?_
        obtain ⟨hs21, h⟩ := h
        refine sl_v rfl (s_cat rfl rfl hs21) ?_
        refine sl_v rfl (r_as rfl) ?_
        refine sl_nil ?_
        refine cw_seq ?_
        refine cw_seq ?_
        refine cw_region ?_
        refine sl_v rfl (r_mv rfl) ?_
        refine sl_v rfl (r_mv rfl) ?_
        refine sl_op rfl (ok_call c_sym_Table_Find rfl (Calls.mono h (fun e22 w23 hq24 => ?_)))
        clear h
        obtain ⟨r26_0, r26_1, he25, h⟩ := hq24
        refine ⟨_, he25, ?_⟩
        replace hx : Ext w23 w23 := Chg.refl _
        refine sl_v rfl (r_mv rfl) ?_
        refine sl_v rfl (r_ex rfl rfl) ?_
        refine sl_v rfl (r_ex rfl rfl) ?_
        refine sl_v rfl (r_as rfl) ?_
        refine sl_v rfl (r_as rfl) ?_
        refine sl_nil ?_
        refine cw_seq ?_
        refine cw_region ?_
        refine sl_v rfl (r_mv rfl) ?_
        refine sl_nil ?_
        refine bcases (r26_1) (fun hb27 => ?_) (fun hb27 => ?_)
        · replace h := h.1 hb27
          refine cw_ct rfl hb27 ?_
          refine cw_seq ?_
          refine cw_region ?_
          refine sl_v rfl (r_as rfl) ?_
          refine sl_v rfl (r_as rfl) ?_
          refine sl_nil ?_
          refine cw_ret ?_
          exact rs_2 (rt rfl) (rt rfl) ⟨0, 8, rfl, h⟩
        · replace h := h.2 hb27
          refine cw_cf rfl hb27 ?_
          refine cw_skip ?_
          obtain ⟨K28, hK29, h⟩ := h
          refine cw_mid (fun f w => ∃ (g : Env), f = (upd (upd (upd (upd (nm g []) 0 (.pointer a0)) 1 (.int .i64 a1)) 2 (.int .i64 a2)) 12 (.string (r5_0 ++ r10_0))) ∧ K28 w) ?_ (fun _ w30 hM32 => ?_)
          ·
            refine cw_seq ?_
            refine cw_region ?_
            refine sl_v rfl (r_mv rfl) ?_
            obtain ⟨b33, o34, rfl, h⟩ := h
            refine sl_v rfl (r_nc rfl) ?_
            refine sl_v rfl (fa_sym_Table_1 (o' := o34 + 1) rfl rfl) ?_
            obtain ⟨v35, hc36, h⟩ := h
            refine sl_v rfl (ld_map_string_int rfl hc36) ?_
            refine sl_v rfl (m_eqn rfl rfl Try.underlying73) ?_
            refine sl_nil ?_
            refine bcases (decide (v35 = none)) (fun hb37 => ?_) (fun hb37 => ?_)
            · replace h := h.1 (of_decide_eq_true hb37)
              refine cw_ct rfl hb37 ?_
              refine cw_region ?_
              refine sl_v rfl (r_mv rfl) ?_
              refine sl_op rfl (ok_mm (fun b38 w39 hN40 => ?_) rfl)
              replace h := h b38 w39 hN40
              replace hx : Ext w39 w39 := Chg.refl _
              refine sl_v rfl (r_nc rfl) ?_
              refine sl_v rfl (fa_sym_Table_1 (o' := o34 + 1) rfl rfl) ?_
              obtain ⟨hW43, h⟩ := h
              refine sl_op rfl (st_map_string_int (vs := [.map (some b38)]) rfl rfl rfl rfl rfl hW43 (fun w41 hw42 => ?_))
              replace h := h w41 hw42
              replace hx : Ext w41 w41 := Chg.refl _
              refine sl_nil ?_
              exact ⟨_, (kp (kp (kp (kp (kn rfl) rfl) rfl) rfl) rfl), h⟩
            · replace h := h.2 (of_decide_eq_false hb37)
              refine cw_cf rfl hb37 ?_
              refine cw_skip ?_
              exact ⟨_, (kp (kp (kp (kp (kn rfl) rfl) rfl) rfl) rfl), h⟩
          ·
            obtain ⟨g31, rfl, hM32⟩ := hM32
            replace h := hK29 w30 hM32
            have hx : Ext w30 w30 := Chg.refl _
            refine cw_seq ?_
            refine cw_region ?_
            refine sl_v rfl (r_mv rfl) ?_
            refine sl_op rfl (ok_call c_sym_Table_Len rfl (Calls.mono h (fun e44 w45 hq46 => ?_)))
            clear h
            obtain ⟨r48, he47, h⟩ := hq46
            refine ⟨_, he47, ?_⟩
            replace hx : Ext w45 w45 := Chg.refl _
            refine sl_v rfl (r_as rfl) ?_
            refine sl_nil ?_
            refine cw_seq ?_
            refine cw_region ?_
            refine sl_v rfl (r_mv rfl) ?_
            obtain ⟨b49, o50, rfl, h⟩ := h
            refine sl_v rfl (r_nc rfl) ?_
            refine sl_v rfl (fa_sym_Table_1 (o' := o50 + 1) rfl rfl) ?_
            obtain ⟨v51, hc52, h⟩ := h
            refine sl_v rfl (ld_map_string_int rfl hc52) ?_
            refine sl_v rfl (r_mv rfl) ?_
            refine sl_v rfl (r_mv rfl) ?_
            obtain ⟨b57, rfl, h⟩ := h
            obtain ⟨es58, hm56, h⟩ := h
            refine sl_op rfl (mu_map_string_int (a := r5_0 ++ r10_0) (c := r48) rfl rfl rfl hm56 (fun w53 hq54 hc55 => ?_))
            replace h := h w53 hq54 hc55
            replace hx : Ext w53 w53 := Chg.refl _
            refine sl_nil ?_
            refine cw_seq ?_
            refine cw_region ?_
            refine sl_v rfl (r_mv rfl) ?_
            refine sl_v rfl (r_mv rfl) ?_
            refine sl_v rfl (r_nc rfl) ?_
            refine sl_v rfl (fa_sym_Table_0 (o' := o50) rfl rfl) ?_
            obtain ⟨v59, hc60, h⟩ := h
            refine sl_v rfl (ld_sl_sym_joined rfl hc60) ?_
            refine sl_v rfl (r_mv rfl) ?_
            refine sl_v rfl (r_mv rfl) ?_
            refine sl_v rfl (bd_api_Pair (vs := [(0, .int .i64 a1), (1, .int .i64 a2)]) (cs := #[.int .i64 a1, .int .i64 a2]) rfl rfl) ?_
            refine sl_v rfl (r_mv rfl) ?_
            refine sl_v rfl (bd_sym_joined (vs := [(0, .agg #[.int .i64 a1, .int .i64 a2]), (1, .string (r5_0 ++ r10_0))]) (cs := #[.int .i64 a1, .int .i64 a2, .string (r5_0 ++ r10_0)]) rfl rfl) ?_
            refine sl_op rfl (bs_sl_sym_joined (len := 1) (vs := [(0, .agg #[.int .i64 a1, .int .i64 a2, .string (r5_0 ++ r10_0)])]) (cs := #[.int .i64 a1, .int .i64 a2, .string (r5_0 ++ r10_0)]) (by decide) rfl rfl (fun b61 w62 hN63 => ?_))
            have hB64 := hN63.here
            replace hx := hx.tr hN63.ext
            obtain ⟨xs69, ho70, hb71, h⟩ := h
            refine sl_op rfl (ap_sl_sym_joined (s := v59) (xs := xs69) (m := 1) (news := [.int .i64 a1, .int .i64 a2, .string (r5_0 ++ r10_0)]) rfl rfl hx ho70 (.c (cell_blk hB64 rfl) (.c (cell_blk hB64 rfl) (.c (cell_blk hB64 rfl) .n))) rfl rfl hb71 (fun s66 w65 ha67 hc68 => ?_))
            replace h := h s66 w65 ha67
            replace hx : Ext w65 w65 := Chg.refl _
            refine sl_v rfl (r_nc rfl) ?_
            refine sl_v rfl (fa_sym_Table_0 (o' := o50) rfl rfl) ?_
            obtain ⟨hW74, h⟩ := h
            refine sl_op rfl (st_sl_sym_joined (vs := [s66.v]) rfl rfl rfl rfl rfl hW74 (fun w72 hw73 => ?_))
            replace h := h w72 hw73
            replace hx : Ext w72 w72 := Chg.refl _
            refine sl_nil ?_
            refine cw_seq ?_
            refine cw_region ?_
            refine sl_v rfl (r_mv rfl) ?_
            refine sl_v rfl (r_as rfl) ?_
            refine sl_v rfl (r_as rfl) ?_
            refine sl_nil ?_
            refine cw_ret ?_
            exact rs_2 (rt rfl) (rt rfl) ⟨r48, 0, rfl, h⟩

def VC_sym_Table_Text (a0 : Option Addr) (a1 : Int) (R : ByteArray → Bool → World → Prop) (w : World) : Prop :=
  ∃ K2 : Bool → World → Prop, (∀ (j1 : Bool) (w4 : World), K2 j1 w4 → ((j1 = true → (R (⟨#[]⟩ : ByteArray) false w4)) ∧ (j1 = false → ((a1 < (256 : Int) → (∃ z15 : Int, z15 = IntKind.wrap .u8 a1 ∧ (∃ q20 : UInt8, z15 = ((q20.toNat : Nat) : Int) ∧ (∀ w17 : World, Ext w4 w17 → (R (⟨#[q20]⟩ : ByteArray) true w17))))) ∧ (¬ (a1 < (256 : Int)) → (∃ (b23 o24 : Nat), a0 = some ⟨b23, o24, none⟩ ∧ (∃ v25 : Sl, w4.cell? ⟨b23, o24, none⟩ = some (v25.v) ∧ (∃ z27 : Int, z27 = IntKind.wrap .i64 (a1 - 256) ∧ (∃ k28 : Nat, z27 = ((k28 : Nat) : Int) ∧ k28 < v25.n ∧ (∃ (b30 o31 : Nat), v25.b = some ⟨b30, o31, none⟩ ∧ (∃ v33 : ByteArray, w4.cell? ⟨b30, o31 + k28 * 3 + 2, none⟩ = some (.string v33) ∧ (R v33 true w4)))))))))))) ∧ ((a1 < (0 : Int) → (K2 true w)) ∧ (¬ (a1 < (0 : Int)) → (Calls PP n_sym_Table_Len #[.pointer a0] w (fun e w9 => ∃ r12 : Int, e = .returned (.int .i64 r12) ∧ (K2 (decide (r12 ≤ a1)) w9)))))
set_option maxRecDepth 100000 in
theorem vc_sym_Table_Text {a0 : Option Addr} {a1 : Int} {R : ByteArray → Bool → World → Prop} {w : World} (h : VC_sym_Table_Text a0 a1 R w) : Calls PP n_sym_Table_Text #[.pointer a0, .int .i64 a1] w fun e w' => ∃ r0 : ByteArray, ∃ r1 : Bool, e = .returned (.tuple #[.string r0, .bool r1]) ∧ R r0 r1 w' := by
  refine Calls.mono (calls_of_cw (n := 31) (rs := #[.tmp 4, .tmp 5]) (args := [.pointer a0, .int .i64 a1]) (R := fun v w' => ∃ r0 : ByteArray, ∃ r1 : Bool, v = .tuple #[.string r0, .bool r1] ∧ R r0 r1 w') Try.func55 rfl rfl (Nat.le_of_ble_eq_true rfl) rfl ?_) ?_
  case refine_2 => rintro e w' ⟨v, rfl, hr⟩; obtain ⟨r0, r1, rfl, hr⟩ := hr; exact ⟨r0, r1, rfl, hr⟩
  have hx : Ext w w := Chg.refl _
  unfold VC_sym_Table_Text at h
  refine cw_seq ?_
  refine cw_region ?_
  refine sl_v rfl (r_as rfl) ?_
  refine sl_v rfl (r_as rfl) ?_
  refine sl_nil ?_
  refine cw_seq ?_
  refine cw_block ?_
  obtain ⟨K2, hK3, h⟩ := h
  refine cw_mid (fun f w => ∃ (g : Env) (j1 : Bool), f = (upd (upd (upd (nm g []) 0 (.pointer a0)) 1 (.int .i64 a1)) 6 (.bool j1)) ∧ K2 j1 w) ?_ (fun _ w4 hM6 => ?_)
  ·
    refine cw_region ?_
    refine sl_v rfl (r_mv rfl) ?_
    refine sl_v rfl (r_lss rfl rfl) ?_
    refine sl_v rfl (r_mv rfl) ?_
    refine bcases (decide (a1 < (0 : Int))) (fun hb7 => ?_) (fun hb7 => ?_)
    · replace h := h.1 (of_decide_eq_true hb7)
      refine sl_no rfl rfl rfl hb7 ?_
      refine sl_no rfl rfl rfl hb7 ?_
      refine sl_no rfl rfl rfl hb7 ?_
      refine sl_no rfl rfl rfl hb7 ?_
      refine sl_v rfl (r_pt rfl hb7 rfl) ?_
      refine sl_v rfl (r_as rfl) ?_
      refine sl_nil ?_
      exact ⟨_, true, (kp (kp (kp (kn rfl) rfl) rfl) rfl), h⟩
    · replace h := h.2 (of_decide_eq_false hb7)
      refine sl_vg rfl rfl rfl hb7 (r_mv rfl) ?_
      refine sl_vg rfl rfl rfl hb7 (r_mv rfl) ?_
      refine sl_g rfl rfl rfl hb7 (ok_call c_sym_Table_Len rfl (Calls.mono h (fun e8 w9 hq10 => ?_)))
      clear h
      obtain ⟨r12, he11, h⟩ := hq10
      refine ⟨_, he11, ?_⟩
      replace hx : Ext w9 w9 := Chg.refl _
      refine sl_vg rfl rfl rfl hb7 (r_geq rfl rfl) ?_
      refine sl_v rfl (r_pf rfl hb7 rfl) ?_
      refine sl_v rfl (r_as rfl) ?_
      refine sl_nil ?_
      exact ⟨_, decide (r12 ≤ a1), (kp (kp (kp (kn rfl) rfl) rfl) rfl), h⟩
  ·
    obtain ⟨g5, j1, rfl, hM6⟩ := hM6
    replace h := hK3 j1 w4 hM6
    have hx : Ext w4 w4 := Chg.refl _
    refine bcases (j1) (fun hb13 => ?_) (fun hb13 => ?_)
    · replace h := h.1 hb13
      refine cw_ct rfl hb13 ?_
      refine cw_seq ?_
      refine cw_region ?_
      refine sl_v rfl (r_as rfl) ?_
      refine sl_v rfl (r_as rfl) ?_
      refine sl_nil ?_
      refine cw_ret ?_
      exact rs_2 (rt rfl) (rt rfl) ⟨(⟨#[]⟩ : ByteArray), false, rfl, h⟩
    · replace h := h.2 hb13
      refine cw_cf rfl hb13 ?_
      refine cw_seq ?_
      refine cw_region ?_
      refine sl_v rfl (r_mv rfl) ?_
      refine sl_v rfl (r_lss rfl rfl) ?_
      refine sl_v rfl (r_as rfl) ?_
      refine sl_nil ?_
      refine bcases (decide (a1 < (256 : Int))) (fun hb14 => ?_) (fun hb14 => ?_)
      · replace h := h.1 (of_decide_eq_true hb14)
        refine cw_ct rfl hb14 ?_
        refine cw_seq ?_
        refine cw_region ?_
        refine sl_v rfl (r_mv rfl) ?_
        obtain ⟨z15, hz15, h⟩ := h
        refine sl_v rfl (r_ci (z := z15) rfl Try.underlying3 Try.underlying5 hz15) ?_
        refine sl_op rfl (bs_sl_uint8 (len := 1) (vs := [(0, .int .u8 z15)]) (cs := #[.int .u8 z15]) (by decide) rfl rfl (fun b16 w17 hN18 => ?_))
        have hB19 := hN18.here
        replace hx := hx.tr hN18.ext
        obtain ⟨q20, rfl, h⟩ := h
        refine sl_v rfl (r_b2s (s := ⟨some ⟨b16, 0, none⟩, 1, 1⟩) (l := [q20]) Try.underlying76 Try.underlying5 Try.underlying9 rfl (bys_row (w := w17) (l := [q20]) hB19 rfl)) ?_
        refine sl_v rfl (r_as rfl) ?_
        refine sl_v rfl (r_as rfl) ?_
        refine sl_nil ?_
        refine cw_ret ?_
        replace h := h _ hx
        replace hx : Ext w17 w17 := Chg.refl _
        exact rs_2 (rt rfl) (rt rfl) ⟨(⟨#[q20]⟩ : ByteArray), true, rfl, h⟩
      · replace h := h.2 (of_decide_eq_false hb14)
        refine cw_cf rfl hb14 ?_
        refine cw_skip ?_
        refine cw_seq ?_
        refine cw_region ?_
        refine sl_v rfl (r_mv rfl) ?_
        obtain ⟨b23, o24, rfl, h⟩ := h
        refine sl_v rfl (r_nc rfl) ?_
        refine sl_v rfl (fa_sym_Table_0 (o' := o24) rfl rfl) ?_
        obtain ⟨v25, hc26, h⟩ := h
        refine sl_v rfl (ld_sl_sym_joined rfl hc26) ?_
        refine sl_v rfl (r_mv rfl) ?_
        obtain ⟨z27, hz27, h⟩ := h
        refine sl_v rfl (r_sub rfl rfl hz27) ?_
        obtain ⟨k28, rfl, hk29, h⟩ := h
        obtain ⟨b30, o31, hb32, h⟩ := h
        refine sl_v rfl (ia_sl_sym_joined (s := v25) (j := k28) (o' := o31 + k28 * 3) rfl rfl hk29 hb32 rfl) ?_
        refine sl_v rfl (fa_sym_joined_1 (o' := o31 + k28 * 3 + 2) rfl rfl) ?_
        obtain ⟨v33, hc34, h⟩ := h
        refine sl_v rfl (ld_string rfl hc34) ?_
        refine sl_v rfl (r_as rfl) ?_
        refine sl_v rfl (r_as rfl) ?_
        refine sl_nil ?_
        refine cw_ret ?_
        exact rs_2 (rt rfl) (rt rfl) ⟨v33, true, rfl, h⟩

def VC_strings_Builder_WriteString (a0 : Option Addr) (a1 : ByteArray) (R : Int → Value → World → Prop) (w : World) : Prop :=
  Calls PP n_strings_Builder_copyCheck #[.pointer a0] w (fun e w2 => e = .returned (.tuple #[]) ∧ (∃ (b6 o7 : Nat), a0 = some ⟨b6, o7, none⟩ ∧ (∃ v8 : Sl, w2.cell? ⟨b6, o7 + 1, none⟩ = some (v8.v) ∧ (∃ xs14 : List Value, Own w2 t_uint8 1 v8 xs14 ∧ v8.n + a1.size ≤ 140737488355328 ∧ (∀ (s11 : Sl) (w10 : World), App w2 t_uint8 1 v8 xs14 a1.size (a1.data.toList.map byV) s11 w10 → (Wr w10 b6 (o7 + 1) 1 ∧ (∀ w17 : World, w17 = setCells w10 b6 (o7 + 1) [s11.v] → (R ((a1.size : Nat) : Int) Value.nilIface w17))))))))
set_option maxRecDepth 100000 in
theorem vc_strings_Builder_WriteString {a0 : Option Addr} {a1 : ByteArray} {R : Int → Value → World → Prop} {w : World} (h : VC_strings_Builder_WriteString a0 a1 R w) : Calls PP n_strings_Builder_WriteString #[.pointer a0, .string a1] w fun e w' => ∃ r0 : Int, ∃ r1 : Value, e = .returned (.tuple #[.int .i64 r0, r1]) ∧ R r0 r1 w' := by
  refine Calls.mono (calls_of_cw (n := 19) (rs := #[.tmp 4, .tmp 5]) (args := [.pointer a0, .string a1]) (R := fun v w' => ∃ r0 : Int, ∃ r1 : Value, v = .tuple #[.int .i64 r0, r1] ∧ R r0 r1 w') Try.func56 rfl rfl (Nat.le_of_ble_eq_true rfl) rfl ?_) ?_
  case refine_2 => rintro e w' ⟨v, rfl, hr⟩; obtain ⟨r0, r1, rfl, hr⟩ := hr; exact ⟨r0, r1, rfl, hr⟩
  have hx : Ext w w := Chg.refl _
  unfold VC_strings_Builder_WriteString at h
  refine cw_seq ?_
  refine cw_region ?_
  refine sl_v rfl (r_as rfl) ?_
  refine sl_v rfl (r_as rfl) ?_
  refine sl_nil ?_
  refine cw_seq ?_
  refine cw_region ?_
  refine sl_v rfl (r_mv rfl) ?_
  refine sl_op rfl (ok_call c_strings_Builder_copyCheck rfl (Calls.mono h (fun e1 w2 hq3 => ?_)))
  clear h
  obtain ⟨he4, h⟩ := hq3
  refine ⟨_, he4, ?_⟩
  replace hx : Ext w2 w2 := Chg.refl _
  refine sl_nil ?_
  refine cw_seq ?_
  refine cw_region ?_
  refine sl_v rfl (r_mv rfl) ?_
  refine sl_v rfl (r_mv rfl) ?_
  obtain ⟨b6, o7, rfl, h⟩ := h
  refine sl_v rfl (r_nc rfl) ?_
  refine sl_v rfl (fa_strings_Builder_1 (o' := o7 + 1) rfl rfl) ?_
  obtain ⟨v8, hc9, h⟩ := h
  refine sl_v rfl (ld_sl_uint8 rfl hc9) ?_
  refine sl_v rfl (r_mv rfl) ?_
  obtain ⟨xs14, ho15, hb16, h⟩ := h
  refine sl_op rfl (aps_sl_uint8_9 (s := v8) (xs := xs14) (q := a1) rfl rfl hx ho15 hb16 (fun s11 w10 ha12 hc13 => ?_))
  replace h := h s11 w10 ha12
  replace hx : Ext w10 w10 := Chg.refl _
  refine sl_v rfl (r_nc rfl) ?_
  refine sl_v rfl (fa_strings_Builder_1 (o' := o7 + 1) rfl rfl) ?_
  obtain ⟨hW19, h⟩ := h
  refine sl_op rfl (st_sl_uint8 (vs := [s11.v]) rfl rfl rfl rfl rfl hW19 (fun w17 hw18 => ?_))
  replace h := h w17 hw18
  replace hx : Ext w17 w17 := Chg.refl _
  refine sl_nil ?_
  refine cw_seq ?_
  refine cw_region ?_
  refine sl_v rfl (r_mv rfl) ?_
  refine sl_v rfl (r_len_s rfl rfl Try.underlying9) ?_
  refine sl_v rfl (r_as rfl) ?_
  refine sl_v rfl (r_as rfl) ?_
  refine sl_nil ?_
  refine cw_ret ?_
  exact rs_2 (rt rfl) (rt rfl) ⟨((a1.size : Nat) : Int), Value.nilIface, rfl, h⟩

def VC_checked_Dot (a0 : Sl) (a1 : Sl) (R : Int → Bool → World → Prop) (w : World) : Prop :=
  (((a0.n : Nat) : Int) ≠ ((a1.n : Nat) : Int) → (R 0 false w)) ∧ (¬ (((a0.n : Nat) : Int) ≠ ((a1.n : Nat) : Int)) → (∃ (I4 : Sl → Int → World → Prop) (μ5 : Sl → Int → World → Nat), I4 (⟨none, 0, 0⟩ : Sl) 0 w ∧ ∀ (l2 : Sl) (l3 : Int) (w7 : World), I4 l2 l3 w7 → ((l3 < ((a0.n : Nat) : Int) → (∃ k11 : Nat, l3 = ((k11 : Nat) : Int) ∧ k11 < a0.n ∧ (∃ (b13 o14 : Nat), a0.b = some ⟨b13, o14, none⟩ ∧ (∃ v16 : Int, w7.cell? ⟨b13, o14 + k11 * 1, none⟩ = some (.int .i64 v16) ∧ (k11 < a1.n ∧ (∃ (b19 o20 : Nat), a1.b = some ⟨b19, o20, none⟩ ∧ (∃ v22 : Int, w7.cell? ⟨b19, o20 + k11 * 1, none⟩ = some (.int .i64 v22) ∧ (∀ w24 : World, Ext w7 w24 → (Calls PP n_checked_Mul #[.int .i64 v16, .int .i64 v22] w24 (fun e w28 => ∃ r31_0 : Int, ∃ r31_1 : Bool, e = .returned (.tuple #[.int .i64 r31_0, .bool r31_1]) ∧ (w28.cell? ⟨b13, o14 + k11 * 1, none⟩ = some (.int .i64 v16) ∧ (w28.cell? ⟨b19, o20 + k11 * 1, none⟩ = some (.int .i64 v22) ∧ ((r31_1 = true → (∃ xs43 : List Value, Own w28 t_int 1 l2 xs43 ∧ ((l2.n + 1) * 8 ≤ 140737488355328 ∧ l2.n + 1 ≤ maxLen) ∧ (∀ (s40 : Sl) (w39 : World), App w28 t_int 1 l2 xs43 1 [.int .i64 r31_0] s40 w39 → (∃ z46 : Int, z46 = IntKind.wrap .i64 (((k11 : Nat) : Int) + 1) ∧ (I4 s40 z46 w39 ∧ μ5 s40 z46 w39 < μ5 l2 l3 w7))))) ∧ (r31_1 = false → (R 0 false w28))))))))))))))) ∧ (¬ (l3 < ((a0.n : Nat) : Int)) → (Calls PP n_checked_Sum #[l2.v] w7 (fun e w48 => ∃ r51_0 : Int, ∃ r51_1 : Bool, e = .returned (.tuple #[.int .i64 r51_0, .bool r51_1]) ∧ (R r51_0 r51_1 w48)))))))
set_option maxRecDepth 100000 in
theorem vc_checked_Dot {a0 : Sl} {a1 : Sl} {R : Int → Bool → World → Prop} {w : World} (h : VC_checked_Dot a0 a1 R w) : Calls PP n_checked_Dot #[a0.v, a1.v] w fun e w' => ∃ r0 : Int, ∃ r1 : Bool, e = .returned (.tuple #[.int .i64 r0, .bool r1]) ∧ R r0 r1 w' := by
  refine Calls.mono (calls_of_cw (n := 43) (rs := #[.tmp 4, .tmp 5]) (args := [a0.v, a1.v]) (R := fun v w' => ∃ r0 : Int, ∃ r1 : Bool, v = .tuple #[.int .i64 r0, .bool r1] ∧ R r0 r1 w') Try.func58 rfl rfl (Nat.le_of_ble_eq_true rfl) rfl ?_) ?_
  case refine_2 => rintro e w' ⟨v, rfl, hr⟩; obtain ⟨r0, r1, rfl, hr⟩ := hr; exact ⟨r0, r1, rfl, hr⟩
  have hx : Ext w w := Chg.refl _
  unfold VC_checked_Dot at h
  refine cw_seq ?_
  refine cw_region ?_
  refine sl_v rfl (r_as rfl) ?_
  refine sl_v rfl (r_as rfl) ?_
  refine sl_nil ?_
  refine cw_seq ?_
  refine cw_seq ?_
  refine cw_region ?_
  refine sl_v rfl (r_mv rfl) ?_
  refine sl_v rfl (r_len_l (s := a0) rfl rfl Try.underlying58) ?_
  refine sl_v rfl (r_mv rfl) ?_
  refine sl_v rfl (r_len_l (s := a1) rfl rfl Try.underlying58) ?_
  refine sl_v rfl (r_neq rfl rfl) ?_
  refine sl_nil ?_
  refine bcases (decide (((a0.n : Nat) : Int) ≠ ((a1.n : Nat) : Int))) (fun hb1 => ?_) (fun hb1 => ?_)
  · replace h := h.1 (of_decide_eq_true hb1)
    refine cw_ct rfl hb1 ?_
    refine cw_seq ?_
    refine cw_region ?_
    refine sl_v rfl (r_as rfl) ?_
    refine sl_v rfl (r_as rfl) ?_
    refine sl_nil ?_
    refine cw_ret ?_
    exact rs_2 (rt rfl) (rt rfl) ⟨0, false, rfl, h⟩
  · replace h := h.2 (of_decide_eq_false hb1)
    refine cw_cf rfl hb1 ?_
    refine cw_skip ?_
    refine cw_seq ?_
    refine cw_region ?_
    refine sl_v rfl (r_as rfl) ?_
    refine sl_nil ?_
    refine cw_seq ?_
    refine cw_seq ?_
    refine cw_region ?_
    refine sl_v rfl (r_mv rfl) ?_
    refine sl_v rfl (r_len_l (s := a0) rfl rfl Try.underlying58) ?_
    refine sl_v rfl (r_mv rfl) ?_
    refine sl_nil ?_
    refine cw_block ?_
    obtain ⟨I4, μ5, hI6, h⟩ := h
    refine cw_loop (σ := Sl × Int) (fun s g => (upd (upd (upd (upd (upd (nm g []) 0 (a0.v)) 1 (a1.v)) 6 (s.1.v)) 16 (.int .i64 ((a0.n : Nat) : Int))) 17 (.int .i64 s.2))) (fun s w => I4 s.1 s.2 w) (fun s w => μ5 s.1 s.2 w) ((⟨none, 0, 0⟩ : Sl), 0) _ (kp (kp (kp (kp (kp (kn rfl) rfl) rfl) rfl) rfl) rfl) hI6 ?_
    rintro ⟨l2, l3⟩ g8 w7 hi9
    replace h := h l2 l3 w7 hi9
    have hx : Ext w7 w7 := Chg.refl _
    change CW _ PP _ _ _ (upd (upd (upd (upd (upd (nm g8 []) 0 (a0.v)) 1 (a1.v)) 6 (l2.v)) 16 (.int .i64 ((a0.n : Nat) : Int))) 17 (.int .i64 l3)) _
    refine cw_seq ?_
    refine cw_region ?_
    refine sl_v rfl (r_lss rfl rfl) ?_
    refine sl_nil ?_
    refine cw_seq ?_
    refine bcases (decide (l3 < ((a0.n : Nat) : Int))) (fun hb10 => ?_) (fun hb10 => ?_)
    · replace h := h.1 (of_decide_eq_true hb10)
      refine cw_ct rfl hb10 ?_
      refine cw_skip ?_
      refine cw_seq ?_
      refine cw_block ?_
      refine cw_seq ?_
      refine cw_region ?_
      refine sl_v rfl (r_mv rfl) ?_
      refine sl_v rfl (r_as rfl) ?_
      refine sl_nil ?_
      refine cw_seq ?_
      obtain ⟨k11, rfl, hk12, h⟩ := h
      obtain ⟨b13, o14, hb15, h⟩ := h
      obtain ⟨v16, hc17, h⟩ := h
      obtain ⟨hk18, h⟩ := h
      obtain ⟨b19, o20, hb21, h⟩ := h
      obtain ⟨v22, hc23, h⟩ := h
      refine cw_dw (S := fun w' => w'.cell? ⟨b13, o14 + k11 * 1, none⟩ = some (.int .i64 v16) ∧ w'.cell? ⟨b19, o20 + k11 * 1, none⟩ = some (.int .i64 v22) ∧ True) mo (fun w24 hd25 => ?_)
      replace hx := hx.tr (Ext.of_drew hd25)
      have hS : w24.cell? ⟨b13, o14 + k11 * 1, none⟩ = some (.int .i64 v16) ∧ w24.cell? ⟨b19, o20 + k11 * 1, none⟩ = some (.int .i64 v22) ∧ True := ⟨hx.cell hc17, hx.cell hc23, trivial⟩
      refine dw_t 0 1 rfl (by kernel_rfl) rfl hS (fun _ _ => (r_mv rfl)) ?_
      refine dw_t 1 3 rfl (by kernel_rfl) rfl hS (fun _ _ => (r_mv rfl)) ?_
      refine dw_t 2 7 rfl (by kernel_rfl) rfl hS (fun _ _ => (ia_sl_int (s := a0) (j := k11) (o' := o14 + k11 * 1) rfl rfl hk12 hb15 rfl)) ?_
      refine dw_t 3 15 rfl (by kernel_rfl) rfl hS (fun _ hS => (ld_int rfl hS.1)) ?_
      refine dw_t 4 31 rfl (by kernel_rfl) rfl hS (fun _ _ => (r_mv rfl)) ?_
      refine dw_t 5 63 rfl (by kernel_rfl) rfl hS (fun _ _ => (r_mv rfl)) ?_
      refine dw_t 6 127 rfl (by kernel_rfl) rfl hS (fun _ _ => (ia_sl_int (s := a1) (j := k11) (o' := o20 + k11 * 1) rfl rfl hk18 hb21 rfl)) ?_
      refine dw_t 7 255 rfl (by kernel_rfl) rfl hS (fun _ hS => (ld_int rfl hS.2.1)) ?_
      replace h := h _ hx
      replace hx : Ext w24 w24 := Chg.refl _
      refine dw_l 8 511 rfl (by kernel_rfl) rfl (ok_call c_checked_Mul rfl (Calls.mono h (fun e27 w28 hq29 => ?_)))
      clear h
      obtain ⟨r31_0, r31_1, he30, h⟩ := hq29
      refine ⟨_, he30, ?_⟩
      replace hx : Ext w28 w28 := Chg.refl _
      obtain ⟨hq32, h⟩ := h
      obtain ⟨hq33, h⟩ := h
      replace hS : w28.cell? ⟨b13, o14 + k11 * 1, none⟩ = some (.int .i64 v16) ∧ w28.cell? ⟨b19, o20 + k11 * 1, none⟩ = some (.int .i64 v22) ∧ True := ⟨hq32, hq33, trivial⟩
      refine ⟨hS, ?_⟩
      refine dw_t 9 1023 rfl (by kernel_rfl) rfl hS (fun _ _ => (r_mv rfl)) ?_
      refine dw_t 10 2047 rfl (by kernel_rfl) rfl hS (fun _ _ => (r_ex rfl rfl)) ?_
      refine dw_t 11 4095 rfl (by kernel_rfl) rfl hS (fun _ _ => (r_ex rfl rfl)) ?_
      refine dw_t 12 8191 rfl (by kernel_rfl) rfl hS (fun _ _ => (r_as rfl)) ?_
      refine dw_t 13 16383 rfl (by kernel_rfl) rfl hS (fun _ _ => (r_as rfl)) ?_
      refine dw_d (by kernel_rfl) ?_
      clear hS
      refine cw_seq ?_
      refine cw_seq ?_
      refine cw_region ?_
      refine sl_v rfl (r_mv rfl) ?_
      refine sl_v rfl (r_not rfl) ?_
      refine sl_nil ?_
      refine bcases (r31_1) (fun hb34 => ?_) (fun hb34 => ?_)
      · replace h := h.1 hb34
        refine cw_cf rfl (nt hb34) ?_
        refine cw_skip ?_
        refine cw_region ?_
        refine sl_v rfl (r_mv rfl) ?_
        refine sl_v rfl (r_mv rfl) ?_
        refine sl_op rfl (bs_sl_int (len := 1) (vs := [(0, .int .i64 r31_0)]) (cs := #[.int .i64 r31_0]) (by decide) rfl rfl (fun b35 w36 hN37 => ?_))
        have hB38 := hN37.here
        replace hx := hx.tr hN37.ext
        obtain ⟨xs43, ho44, hb45, h⟩ := h
        refine sl_op rfl (ap_sl_int (s := l2) (xs := xs43) (m := 1) (news := [.int .i64 r31_0]) rfl rfl hx ho44 (.c (cell_blk hB38 rfl) .n) rfl rfl hb45 (fun s40 w39 ha41 hc42 => ?_))
        replace h := h s40 w39 ha41
        replace hx : Ext w39 w39 := Chg.refl _
        refine sl_v rfl (r_as rfl) ?_
        refine sl_nil ?_
        refine cw_region ?_
        obtain ⟨z46, hz46, h⟩ := h
        refine sl_v rfl (r_add rfl rfl hz46) ?_
        refine sl_v rfl (r_mv rfl) ?_
        refine sl_nil ?_
        exact ⟨(s40, z46), _, (kp (kp (kp (kp (kp (kn rfl) rfl) rfl) rfl) rfl) rfl), h.1, h.2⟩
      · replace h := h.2 hb34
        refine cw_ct rfl (nf hb34) ?_
        refine cw_seq ?_
        refine cw_region ?_
        refine sl_v rfl (r_as rfl) ?_
        refine sl_v rfl (r_as rfl) ?_
        refine sl_nil ?_
        refine cw_ret ?_
        exact rs_2 (rt rfl) (rt rfl) ⟨0, false, rfl, h⟩
    · replace h := h.2 (of_decide_eq_false hb10)
      refine cw_cf rfl hb10 ?_
      refine cw_exit ?_
      refine cw_seq ?_
      refine cw_region ?_
      refine sl_v rfl (r_mv rfl) ?_
      refine sl_op rfl (ok_call c_checked_Sum rfl (Calls.mono h (fun e47 w48 hq49 => ?_)))
      clear h
      obtain ⟨r51_0, r51_1, he50, h⟩ := hq49
      refine ⟨_, he50, ?_⟩
      replace hx : Ext w48 w48 := Chg.refl _
      refine sl_v rfl (r_ex rfl rfl) ?_
      refine sl_v rfl (r_ex rfl rfl) ?_
      refine sl_v rfl (r_as rfl) ?_
      refine sl_v rfl (r_as rfl) ?_
      refine sl_nil ?_
      refine cw_ret ?_
      exact rs_2 (rt rfl) (rt rfl) ⟨r51_0, r51_1, rfl, h⟩

def VC_ref06_Dot (a0 : Sl) (a1 : Sl) (R : Int → Bool → World → Prop) (w : World) : Prop :=
  (((a0.n : Nat) : Int) ≠ ((a1.n : Nat) : Int) → (R 0 false w)) ∧ (¬ (((a0.n : Nat) : Int) ≠ ((a1.n : Nat) : Int)) → (∃ (I4 : Int → Int → World → Prop) (μ5 : Int → Int → World → Nat), I4 0 0 w ∧ ∀ (l2 : Int) (l3 : Int) (w7 : World), I4 l2 l3 w7 → ((l3 < ((a0.n : Nat) : Int) → (∃ k11 : Nat, l3 = ((k11 : Nat) : Int) ∧ k11 < a0.n ∧ (∃ (b13 o14 : Nat), a0.b = some ⟨b13, o14, none⟩ ∧ (∃ v16 : Int, w7.cell? ⟨b13, o14 + k11 * 1, none⟩ = some (.int .i64 v16) ∧ (k11 < a1.n ∧ (∃ (b19 o20 : Nat), a1.b = some ⟨b19, o20, none⟩ ∧ (∃ v22 : Int, w7.cell? ⟨b19, o20 + k11 * 1, none⟩ = some (.int .i64 v22) ∧ (∀ w24 : World, Ext w7 w24 → (Calls PP n_ref06_Mul #[.int .i64 v16, .int .i64 v22] w24 (fun e w28 => ∃ r31_0 : Int, ∃ r31_1 : Bool, e = .returned (.tuple #[.int .i64 r31_0, .bool r31_1]) ∧ (w28.cell? ⟨b13, o14 + k11 * 1, none⟩ = some (.int .i64 v16) ∧ (w28.cell? ⟨b19, o20 + k11 * 1, none⟩ = some (.int .i64 v22) ∧ ((r31_1 = true → (Calls PP n_ref06_Add #[.int .i64 l2, .int .i64 r31_0] w28 (fun e w36 => ∃ r39_0 : Int, ∃ r39_1 : Bool, e = .returned (.tuple #[.int .i64 r39_0, .bool r39_1]) ∧ ((r39_1 = true → (∃ z41 : Int, z41 = IntKind.wrap .i64 (((k11 : Nat) : Int) + 1) ∧ (I4 r39_0 z41 w36 ∧ μ5 r39_0 z41 w36 < μ5 l2 l3 w7))) ∧ (r39_1 = false → (R 0 false w36)))))) ∧ (r31_1 = false → (R 0 false w28))))))))))))))) ∧ (¬ (l3 < ((a0.n : Nat) : Int)) → (R l2 true w7)))))
set_option maxRecDepth 100000 in
theorem vc_ref06_Dot {a0 : Sl} {a1 : Sl} {R : Int → Bool → World → Prop} {w : World} (h : VC_ref06_Dot a0 a1 R w) : Calls PP n_ref06_Dot #[a0.v, a1.v] w fun e w' => ∃ r0 : Int, ∃ r1 : Bool, e = .returned (.tuple #[.int .i64 r0, .bool r1]) ∧ R r0 r1 w' := by
  refine Calls.mono (calls_of_cw (n := 44) (rs := #[.tmp 4, .tmp 5]) (args := [a0.v, a1.v]) (R := fun v w' => ∃ r0 : Int, ∃ r1 : Bool, v = .tuple #[.int .i64 r0, .bool r1] ∧ R r0 r1 w') Try.func59 rfl rfl (Nat.le_of_ble_eq_true rfl) rfl ?_) ?_
  case refine_2 => rintro e w' ⟨v, rfl, hr⟩; obtain ⟨r0, r1, rfl, hr⟩ := hr; exact ⟨r0, r1, rfl, hr⟩
  have hx : Ext w w := Chg.refl _
  unfold VC_ref06_Dot at h
  refine cw_seq ?_
  refine cw_region ?_
  refine sl_v rfl (r_as rfl) ?_
  refine sl_v rfl (r_as rfl) ?_
  refine sl_nil ?_
  refine cw_seq ?_
  refine cw_seq ?_
  refine cw_region ?_
  refine sl_v rfl (r_mv rfl) ?_
  refine sl_v rfl (r_len_l (s := a0) rfl rfl Try.underlying58) ?_
  refine sl_v rfl (r_mv rfl) ?_
  refine sl_v rfl (r_len_l (s := a1) rfl rfl Try.underlying58) ?_
  refine sl_v rfl (r_neq rfl rfl) ?_
  refine sl_nil ?_
  refine bcases (decide (((a0.n : Nat) : Int) ≠ ((a1.n : Nat) : Int))) (fun hb1 => ?_) (fun hb1 => ?_)
  · replace h := h.1 (of_decide_eq_true hb1)
    refine cw_ct rfl hb1 ?_
    refine cw_seq ?_
    refine cw_region ?_
    refine sl_v rfl (r_as rfl) ?_
    refine sl_v rfl (r_as rfl) ?_
    refine sl_nil ?_
    refine cw_ret ?_
    exact rs_2 (rt rfl) (rt rfl) ⟨0, false, rfl, h⟩
  · replace h := h.2 (of_decide_eq_false hb1)
    refine cw_cf rfl hb1 ?_
    refine cw_skip ?_
    refine cw_seq ?_
    refine cw_region ?_
    refine sl_v rfl (r_as rfl) ?_
    refine sl_nil ?_
    refine cw_seq ?_
    refine cw_seq ?_
    refine cw_region ?_
    refine sl_v rfl (r_as rfl) ?_
    refine sl_nil ?_
    refine cw_block ?_
    obtain ⟨I4, μ5, hI6, h⟩ := h
    refine cw_loop (σ := Int × Int) (fun s g => (upd (upd (upd (upd (nm g []) 0 (a0.v)) 1 (a1.v)) 6 (.int .i64 s.1)) 7 (.int .i64 s.2))) (fun s w => I4 s.1 s.2 w) (fun s w => μ5 s.1 s.2 w) (0, 0) _ (kp (kp (kp (kp (kn rfl) rfl) rfl) rfl) rfl) hI6 ?_
    rintro ⟨l2, l3⟩ g8 w7 hi9
    replace h := h l2 l3 w7 hi9
    have hx : Ext w7 w7 := Chg.refl _
    change CW _ PP _ _ _ (upd (upd (upd (upd (nm g8 []) 0 (a0.v)) 1 (a1.v)) 6 (.int .i64 l2)) 7 (.int .i64 l3)) _
    refine cw_seq ?_
    refine cw_seq ?_
    refine cw_region ?_
    refine sl_v rfl (r_mv rfl) ?_
    refine sl_v rfl (r_mv rfl) ?_
    refine sl_v rfl (r_len_l (s := a0) rfl rfl Try.underlying58) ?_
    refine sl_v rfl (r_lss rfl rfl) ?_
    refine sl_nil ?_
    refine bcases (decide (l3 < ((a0.n : Nat) : Int))) (fun hb10 => ?_) (fun hb10 => ?_)
    · replace h := h.1 (of_decide_eq_true hb10)
      refine cw_ct rfl hb10 ?_
      refine cw_skip ?_
      refine cw_seq ?_
      refine cw_block ?_
      refine cw_seq ?_
      obtain ⟨k11, rfl, hk12, h⟩ := h
      obtain ⟨b13, o14, hb15, h⟩ := h
      obtain ⟨v16, hc17, h⟩ := h
      obtain ⟨hk18, h⟩ := h
      obtain ⟨b19, o20, hb21, h⟩ := h
      obtain ⟨v22, hc23, h⟩ := h
      refine cw_dw (S := fun w' => w'.cell? ⟨b13, o14 + k11 * 1, none⟩ = some (.int .i64 v16) ∧ w'.cell? ⟨b19, o20 + k11 * 1, none⟩ = some (.int .i64 v22) ∧ True) mo (fun w24 hd25 => ?_)
      replace hx := hx.tr (Ext.of_drew hd25)
      have hS : w24.cell? ⟨b13, o14 + k11 * 1, none⟩ = some (.int .i64 v16) ∧ w24.cell? ⟨b19, o20 + k11 * 1, none⟩ = some (.int .i64 v22) ∧ True := ⟨hx.cell hc17, hx.cell hc23, trivial⟩
      refine dw_t 0 1 rfl (by kernel_rfl) rfl hS (fun _ _ => (r_mv rfl)) ?_
      refine dw_t 1 3 rfl (by kernel_rfl) rfl hS (fun _ _ => (r_mv rfl)) ?_
      refine dw_t 2 7 rfl (by kernel_rfl) rfl hS (fun _ _ => (ia_sl_int (s := a0) (j := k11) (o' := o14 + k11 * 1) rfl rfl hk12 hb15 rfl)) ?_
      refine dw_t 3 15 rfl (by kernel_rfl) rfl hS (fun _ hS => (ld_int rfl hS.1)) ?_
      refine dw_t 4 31 rfl (by kernel_rfl) rfl hS (fun _ _ => (r_mv rfl)) ?_
      refine dw_t 5 63 rfl (by kernel_rfl) rfl hS (fun _ _ => (r_mv rfl)) ?_
      refine dw_t 6 127 rfl (by kernel_rfl) rfl hS (fun _ _ => (ia_sl_int (s := a1) (j := k11) (o' := o20 + k11 * 1) rfl rfl hk18 hb21 rfl)) ?_
      refine dw_t 7 255 rfl (by kernel_rfl) rfl hS (fun _ hS => (ld_int rfl hS.2.1)) ?_
      replace h := h _ hx
      replace hx : Ext w24 w24 := Chg.refl _
      refine dw_l 8 511 rfl (by kernel_rfl) rfl (ok_call c_ref06_Mul rfl (Calls.mono h (fun e27 w28 hq29 => ?_)))
      clear h
      obtain ⟨r31_0, r31_1, he30, h⟩ := hq29
      refine ⟨_, he30, ?_⟩
      replace hx : Ext w28 w28 := Chg.refl _
      obtain ⟨hq32, h⟩ := h
      obtain ⟨hq33, h⟩ := h
      replace hS : w28.cell? ⟨b13, o14 + k11 * 1, none⟩ = some (.int .i64 v16) ∧ w28.cell? ⟨b19, o20 + k11 * 1, none⟩ = some (.int .i64 v22) ∧ True := ⟨hq32, hq33, trivial⟩
      refine ⟨hS, ?_⟩
      refine dw_t 9 1023 rfl (by kernel_rfl) rfl hS (fun _ _ => (r_mv rfl)) ?_
      refine dw_t 10 2047 rfl (by kernel_rfl) rfl hS (fun _ _ => (r_ex rfl rfl)) ?_
      refine dw_t 11 4095 rfl (by kernel_rfl) rfl hS (fun _ _ => (r_ex rfl rfl)) ?_
      refine dw_t 12 8191 rfl (by kernel_rfl) rfl hS (fun _ _ => (r_as rfl)) ?_
      refine dw_t 13 16383 rfl (by kernel_rfl) rfl hS (fun _ _ => (r_as rfl)) ?_
      refine dw_d (by kernel_rfl) ?_
      clear hS
      refine cw_seq ?_
      refine cw_seq ?_
      refine cw_region ?_
      refine sl_v rfl (r_mv rfl) ?_
      refine sl_v rfl (r_not rfl) ?_
      refine sl_nil ?_
      refine bcases (r31_1) (fun hb34 => ?_) (fun hb34 => ?_)
      · replace h := h.1 hb34
        refine cw_cf rfl (nt hb34) ?_
        refine cw_skip ?_
        refine cw_seq ?_
        refine cw_region ?_
        refine sl_v rfl (r_mv rfl) ?_
        refine sl_v rfl (r_mv rfl) ?_
        refine sl_op rfl (ok_call c_ref06_Add rfl (Calls.mono h (fun e35 w36 hq37 => ?_)))
        clear h
        obtain ⟨r39_0, r39_1, he38, h⟩ := hq37
        refine ⟨_, he38, ?_⟩
        replace hx : Ext w36 w36 := Chg.refl _
        refine sl_v rfl (r_mv rfl) ?_
        refine sl_v rfl (r_ex rfl rfl) ?_
        refine sl_v rfl (r_ex rfl rfl) ?_
        refine sl_v rfl (r_as rfl) ?_
        refine sl_v rfl (r_as rfl) ?_
        refine sl_nil ?_
        refine cw_seq ?_
        refine cw_region ?_
        refine sl_v rfl (r_mv rfl) ?_
        refine sl_v rfl (r_not rfl) ?_
        refine sl_nil ?_
        refine bcases (r39_1) (fun hb40 => ?_) (fun hb40 => ?_)
        · replace h := h.1 hb40
          refine cw_cf rfl (nt hb40) ?_
          refine cw_skip ?_
          refine cw_region ?_
          refine sl_v rfl (r_mv rfl) ?_
          obtain ⟨z41, hz41, h⟩ := h
          refine sl_v rfl (r_add rfl rfl hz41) ?_
          refine sl_v rfl (r_as rfl) ?_
          refine sl_nil ?_
          exact ⟨(r39_0, z41), _, (kp (kp (kp (kp (kn rfl) rfl) rfl) rfl) rfl), h.1, h.2⟩
        · replace h := h.2 hb40
          refine cw_ct rfl (nf hb40) ?_
          refine cw_seq ?_
          refine cw_region ?_
          refine sl_v rfl (r_as rfl) ?_
          refine sl_v rfl (r_as rfl) ?_
          refine sl_nil ?_
          refine cw_ret ?_
          exact rs_2 (rt rfl) (rt rfl) ⟨0, false, rfl, h⟩
      · replace h := h.2 hb34
        refine cw_ct rfl (nf hb34) ?_
        refine cw_seq ?_
        refine cw_region ?_
        refine sl_v rfl (r_as rfl) ?_
        refine sl_v rfl (r_as rfl) ?_
        refine sl_nil ?_
        refine cw_ret ?_
        exact rs_2 (rt rfl) (rt rfl) ⟨0, false, rfl, h⟩
    · replace h := h.2 (of_decide_eq_false hb10)
      refine cw_cf rfl hb10 ?_
      refine cw_exit ?_
      refine cw_seq ?_
      refine cw_region ?_
      refine sl_v rfl (r_mv rfl) ?_
      refine sl_v rfl (r_as rfl) ?_
      refine sl_v rfl (r_as rfl) ?_
      refine sl_nil ?_
      refine cw_ret ?_
      exact rs_2 (rt rfl) (rt rfl) ⟨l2, true, rfl, h⟩

def VC_seq_New (a0 : ByteArray) (R : Option Addr → World → Prop) (w : World) : Prop :=
  ∀ (b1 : Nat) (w2 : World), New w b1 (.cells #[.slice none 0 0, .int .i64 (-1), .int .i64 ((a0.size : Nat) : Int)] t_seq_Seq (0, 0)) w2 → (∀ (s4 : Sl) (w5 : World), Ext w2 w5 → BysNew w2 w5 s4 a0 → (∃ (I10 : Int → World → Prop) (μ11 : Int → World → Nat), I10 0 w5 ∧ ∀ (l9 : Int) (w13 : World), I10 l9 w13 → ((l9 < ((s4.n : Nat) : Int) → (∃ k17 : Nat, l9 = ((k17 : Nat) : Int) ∧ k17 < s4.n ∧ (∃ (b19 o20 : Nat), s4.b = some ⟨b19, o20, none⟩ ∧ (∃ v22 : Int, w13.cell? ⟨b19, o20 + k17 * 1, none⟩ = some (.int .u8 v22) ∧ (∃ v24 : Sl, w13.cell? ⟨b1, 0, none⟩ = some (v24.v) ∧ (∃ z26 : Int, z26 = IntKind.wrap .i64 v22 ∧ (∃ z27 : Int, z27 = IntKind.wrap .i64 (((k17 : Nat) : Int) - 1) ∧ (∃ z28 : Int, z28 = IntKind.wrap .i64 (((k17 : Nat) : Int) + 1) ∧ (∃ xs37 : List Value, Own w13 t_seq_cell 3 v24 xs37 ∧ ((v24.n + 1) * 24 ≤ 140737488355328 ∧ v24.n + 1 ≤ maxLen) ∧ (∀ (s34 : Sl) (w33 : World), App w13 t_seq_cell 3 v24 xs37 1 [.int .i64 z26, .int .i64 z27, .int .i64 z28] s34 w33 → (Wr w33 b1 0 1 ∧ (∀ w40 : World, w40 = setCells w33 b1 0 [s34.v] → (∃ z43 : Int, z43 = IntKind.wrap .i64 (((k17 : Nat) : Int) + 1) ∧ (I10 z43 w40 ∧ μ11 z43 w40 < μ11 l9 w13)))))))))))))) ∧ (¬ (l9 < ((s4.n : Nat) : Int)) → (∃ v44 : Sl, w13.cell? ⟨b1, 0, none⟩ = some (v44.v) ∧ (((0 : Int) < ((v44.n : Nat) : Int) → (∃ z47 : Int, z47 = IntKind.wrap .i64 (((v44.n : Nat) : Int) - 1) ∧ (Wr w13 b1 1 1 ∧ (∀ w48 : World, w48 = setCells w13 b1 1 [.int .i64 0] → (∃ k51 : Nat, z47 = ((k51 : Nat) : Int) ∧ k51 < v44.n ∧ (∃ (b53 o54 : Nat), v44.b = some ⟨b53, o54, none⟩ ∧ (Wr w48 b53 (o54 + k51 * 3 + 2) 1 ∧ (∀ w56 : World, w56 = setCells w48 b53 (o54 + k51 * 3 + 2) [.int .i64 (-1)] → (R (some ⟨b1, 0, none⟩) w56))))))))) ∧ (¬ ((0 : Int) < ((v44.n : Nat) : Int)) → (R (some ⟨b1, 0, none⟩) w13))))))))
set_option maxRecDepth 100000 in
theorem vc_seq_New {a0 : ByteArray} {R : Option Addr → World → Prop} {w : World} (h : VC_seq_New a0 R w) : Calls PP n_seq_New #[.string a0] w fun e w' => ∃ r0 : Option Addr, e = .returned (.pointer r0) ∧ R r0 w' := by
  refine Calls.mono (calls_of_cw (n := 55) (rs := #[.tmp 2]) (args := [.string a0]) (R := fun v w' => ∃ r0 : Option Addr, v = .pointer r0 ∧ R r0 w') Try.func60 rfl rfl (Nat.le_of_ble_eq_true rfl) rfl ?_) ?_
  case refine_2 => rintro e w' ⟨v, rfl, hr⟩; obtain ⟨r0, rfl, hr⟩ := hr; exact ⟨r0, rfl, hr⟩
  have hx : Ext w w := Chg.refl _
  unfold VC_seq_New at h
  refine cw_seq ?_
  refine cw_region ?_
  refine sl_v rfl (r_as rfl) ?_
  refine sl_nil ?_
  refine cw_seq ?_
  refine cw_region ?_
  refine sl_v rfl (r_mv rfl) ?_
  refine sl_v rfl (r_len_s rfl rfl Try.underlying9) ?_
  refine sl_v rfl (bd_seq_Seq (vs := [(1, .int .i64 (-1)), (2, .int .i64 ((a0.size : Nat) : Int))]) (cs := #[.slice none 0 0, .int .i64 (-1), .int .i64 ((a0.size : Nat) : Int)]) rfl rfl) ?_
  refine sl_op rfl (bx_seq_Seq rfl rfl (fun b1 w2 hN3 => ?_))
  replace h := h b1 w2 hN3
  replace hx : Ext w2 w2 := Chg.refl _
  refine sl_v rfl (r_as rfl) ?_
  refine sl_nil ?_
  refine cw_seq ?_
  refine cw_seq ?_
  refine cw_region ?_
  refine sl_v rfl (r_mv rfl) ?_
  refine sl_op rfl (ok_s2b (s := a0) Try.underlying9 Try.underlying76 Try.underlying5 rfl (fun s4 w5 hN7 hb8 => ?_))
  replace h := h s4 w5 (hx.tr hN7) (Fresh.from hx hb8)
  replace hx : Ext w5 w5 := Chg.refl _
  refine sl_v rfl (r_len_l (s := s4) rfl rfl Try.underlying76) ?_
  refine sl_v rfl (r_mv rfl) ?_
  refine sl_nil ?_
  refine cw_block ?_
  obtain ⟨I10, μ11, hI12, h⟩ := h
  refine cw_loop (σ := Int) (fun s g => (upd (upd (upd (upd (nm g []) 3 (.pointer (some ⟨b1, 0, none⟩))) 12 (s4.v)) 13 (.int .i64 ((s4.n : Nat) : Int))) 14 (.int .i64 s))) (fun s w => I10 s w) (fun s w => μ11 s w) (0) _ (kp (kp (kp (kp (kn rfl) rfl) rfl) rfl) rfl) hI12 ?_
  rintro l9 g14 w13 hi15
  replace h := h l9 w13 hi15
  have hx : Ext w13 w13 := Chg.refl _
  change CW _ PP _ _ _ (upd (upd (upd (upd (nm g14 []) 3 (.pointer (some ⟨b1, 0, none⟩))) 12 (s4.v)) 13 (.int .i64 ((s4.n : Nat) : Int))) 14 (.int .i64 l9)) _
  refine cw_seq ?_
  refine cw_region ?_
  refine sl_v rfl (r_lss rfl rfl) ?_
  refine sl_nil ?_
  refine cw_seq ?_
  refine bcases (decide (l9 < ((s4.n : Nat) : Int))) (fun hb16 => ?_) (fun hb16 => ?_)
  · replace h := h.1 (of_decide_eq_true hb16)
    refine cw_ct rfl hb16 ?_
    refine cw_skip ?_
    refine cw_seq ?_
    refine cw_block ?_
    refine cw_seq ?_
    refine cw_region ?_
    refine sl_v rfl (r_mv rfl) ?_
    obtain ⟨k17, rfl, hk18, h⟩ := h
    obtain ⟨b19, o20, hb21, h⟩ := h
    refine sl_v rfl (ia_sl_uint8 (s := s4) (j := k17) (o' := o20 + k17 * 1) rfl rfl hk18 hb21 rfl) ?_
    obtain ⟨v22, hc23, h⟩ := h
    refine sl_v rfl (ld_uint8 rfl hc23) ?_
    refine sl_v rfl (r_as rfl) ?_
    refine sl_v rfl (r_as rfl) ?_
    refine sl_nil ?_
    refine cw_region ?_
    refine sl_v rfl (r_mv rfl) ?_
    refine sl_v rfl (r_mv rfl) ?_
    refine sl_v rfl (r_nc rfl) ?_
    refine sl_v rfl (fa_seq_Seq_0 (o' := 0) rfl rfl) ?_
    obtain ⟨v24, hc25, h⟩ := h
    refine sl_v rfl (ld_sl_seq_cell rfl hc25) ?_
    refine sl_v rfl (r_mv rfl) ?_
    obtain ⟨z26, hz26, h⟩ := h
    refine sl_v rfl (r_ci (z := z26) rfl Try.underlying5 Try.underlying3 hz26) ?_
    refine sl_v rfl (r_mv rfl) ?_
    obtain ⟨z27, hz27, h⟩ := h
    refine sl_v rfl (r_sub rfl rfl hz27) ?_
    refine sl_v rfl (r_mv rfl) ?_
    obtain ⟨z28, hz28, h⟩ := h
    refine sl_v rfl (r_add rfl rfl hz28) ?_
    refine sl_v rfl (bd_seq_cell (vs := [(0, .int .i64 z26), (1, .int .i64 z27), (2, .int .i64 z28)]) (cs := #[.int .i64 z26, .int .i64 z27, .int .i64 z28]) rfl rfl) ?_
    refine sl_op rfl (bs_sl_seq_cell (len := 1) (vs := [(0, .agg #[.int .i64 z26, .int .i64 z27, .int .i64 z28])]) (cs := #[.int .i64 z26, .int .i64 z27, .int .i64 z28]) (by decide) rfl rfl (fun b29 w30 hN31 => ?_))
    have hB32 := hN31.here
    replace hx := hx.tr hN31.ext
    obtain ⟨xs37, ho38, hb39, h⟩ := h
    refine sl_op rfl (ap_sl_seq_cell (s := v24) (xs := xs37) (m := 1) (news := [.int .i64 z26, .int .i64 z27, .int .i64 z28]) rfl rfl hx ho38 (.c (cell_blk hB32 rfl) (.c (cell_blk hB32 rfl) (.c (cell_blk hB32 rfl) .n))) rfl rfl hb39 (fun s34 w33 ha35 hc36 => ?_))
    replace h := h s34 w33 ha35
    replace hx : Ext w33 w33 := Chg.refl _
    refine sl_v rfl (r_nc rfl) ?_
    refine sl_v rfl (fa_seq_Seq_0 (o' := 0) rfl rfl) ?_
    obtain ⟨hW42, h⟩ := h
    refine sl_op rfl (st_sl_seq_cell (vs := [s34.v]) rfl rfl rfl rfl rfl hW42 (fun w40 hw41 => ?_))
    replace h := h w40 hw41
    replace hx : Ext w40 w40 := Chg.refl _
    refine sl_nil ?_
    refine cw_region ?_
    obtain ⟨z43, hz43, h⟩ := h
    refine sl_v rfl (r_add rfl rfl hz43) ?_
    refine sl_v rfl (r_mv rfl) ?_
    refine sl_nil ?_
    exact ⟨(z43), _, (kp (kp (kp (kp (kn rfl) rfl) rfl) rfl) rfl), h.1, h.2⟩
  · replace h := h.2 (of_decide_eq_false hb16)
    refine cw_cf rfl hb16 ?_
    refine cw_exit ?_
    refine cw_seq ?_
    refine cw_seq ?_
    refine cw_region ?_
    refine sl_v rfl (r_mv rfl) ?_
    refine sl_v rfl (r_nc rfl) ?_
    refine sl_v rfl (fa_seq_Seq_0 (o' := 0) rfl rfl) ?_
    obtain ⟨v44, hc45, h⟩ := h
    refine sl_v rfl (ld_sl_seq_cell rfl hc45) ?_
    refine sl_v rfl (r_len_l (s := v44) rfl rfl Try.underlying124) ?_
    refine sl_v rfl (r_as rfl) ?_
    refine sl_nil ?_
    refine cw_seq ?_
    refine cw_region ?_
    refine sl_v rfl (r_mv rfl) ?_
    refine sl_v rfl (r_gtr rfl rfl) ?_
    refine sl_nil ?_
    refine bcases (decide ((0 : Int) < ((v44.n : Nat) : Int))) (fun hb46 => ?_) (fun hb46 => ?_)
    · replace h := h.1 (of_decide_eq_true hb46)
      refine cw_ct rfl hb46 ?_
      refine cw_region ?_
      refine sl_v rfl (r_mv rfl) ?_
      refine sl_v rfl (r_mv rfl) ?_
      refine sl_v rfl (r_nc rfl) ?_
      refine sl_v rfl (fa_seq_Seq_0 (o' := 0) rfl rfl) ?_
      refine sl_v rfl (ld_sl_seq_cell rfl hc45) ?_
      refine sl_v rfl (r_mv rfl) ?_
      obtain ⟨z47, hz47, h⟩ := h
      refine sl_v rfl (r_sub rfl rfl hz47) ?_
      refine sl_v rfl (r_nc rfl) ?_
      refine sl_v rfl (fa_seq_Seq_1 (o' := 1) rfl rfl) ?_
      obtain ⟨hW50, h⟩ := h
      refine sl_op rfl (st_int (vs := [.int .i64 0]) rfl rfl rfl rfl rfl hW50 (fun w48 hw49 => ?_))
      replace h := h w48 hw49
      replace hx : Ext w48 w48 := Chg.refl _
      obtain ⟨k51, rfl, hk52, h⟩ := h
      obtain ⟨b53, o54, hb55, h⟩ := h
      refine sl_v rfl (ia_sl_seq_cell (s := v44) (j := k51) (o' := o54 + k51 * 3) rfl rfl hk52 hb55 rfl) ?_
      refine sl_v rfl (fa_seq_cell_2 (o' := o54 + k51 * 3 + 2) rfl rfl) ?_
      obtain ⟨hW58, h⟩ := h
      refine sl_op rfl (st_int (vs := [.int .i64 (-1)]) rfl rfl rfl rfl rfl hW58 (fun w56 hw57 => ?_))
      replace h := h w56 hw57
      replace hx : Ext w56 w56 := Chg.refl _
      refine sl_nil ?_
      refine cw_seq ?_
      refine cw_region ?_
      refine sl_v rfl (r_mv rfl) ?_
      refine sl_v rfl (r_as rfl) ?_
      refine sl_nil ?_
      refine cw_ret ?_
      exact rs_1 (rt rfl) ⟨some ⟨b1, 0, none⟩, rfl, h⟩
    · replace h := h.2 (of_decide_eq_false hb46)
      refine cw_cf rfl hb46 ?_
      refine cw_skip ?_
      refine cw_seq ?_
      refine cw_region ?_
      refine sl_v rfl (r_mv rfl) ?_
      refine sl_v rfl (r_as rfl) ?_
      refine sl_nil ?_
      refine cw_ret ?_
      exact rs_1 (rt rfl) ⟨some ⟨b1, 0, none⟩, rfl, h⟩

def VC_apply_Coder_next (a0 : Option Addr) (a1 : Option Addr) (a2 : Int) (R : Int → Int → Int → Bool → World → Prop) (w : World) : Prop :=
  ∀ (b1 : Nat) (w2 : World), Priv w b1 w2 → (∀ (b5 : Nat) (w6 : World), Priv w2 b5 w6 → (∀ w10 : World, Chg (fun b => b = b5) w6 w10 → (Calls PP n_seq_Seq_Pairs #[.pointer a1] w10 (fun e w13 => ∃ r16 : Sl, e = .returned (r16.v) ∧ w13.heap[b1]? = w10.heap[b1]? ∧ w13.heap[b5]? = w10.heap[b5]? ∧ (∃ (I23 : Int → Int → Int → Int → World → Prop) (μ24 : Int → Int → Int → Int → World → Nat), I23 0 0 0 0 w13 ∧ ∀ (l19 : Int) (l20 : Int) (l21 : Int) (l22 : Int) (w26 : World), I23 l19 l20 l21 l22 w26 → ((l20 < ((r16.n : Nat) : Int) → (∃ k32 : Nat, l20 = ((k32 : Nat) : Int) ∧ k32 < r16.n ∧ (∃ (b34 o35 : Nat), r16.b = some ⟨b34, o35, none⟩ ∧ (∃ v37_0 : Int, ∃ v37_1 : Int, ∃ v37_2 : Int, Cells w26 b34 (o35 + k32 * 3) [.int .i64 v37_0, .int .i64 v37_1, .int .i64 v37_2] ∧ (∀ (b39 : Nat) (w40 : World), Priv w26 b39 w40 → (∀ w45 : World, Chg (fun b => b = b39) w40 w45 → (∃ (b49 o50 : Nat), a0 = some ⟨b49, o50, none⟩ ∧ (∃ v51 : Option Nat, w45.cell? ⟨b49, o50 + 1, none⟩ = some (.map v51) ∧ (∃ es53 : List ((Int × Int) × Int), Mp pairV intV w45 v51 es53 ∧ (∃ z55 : Int, z55 = (mget (v37_0, v37_1) es53).getD 0 ∧ (∃ K57 : Bool → World → Prop, (∀ (j56 : Bool) (w59 : World), K57 j56 w59 → ((j56 = true → (∀ w75 : World, Chg (fun b => b = b5) w59 w75 → (∃ z77 : Int, z77 = IntKind.wrap .i64 (((k32 : Nat) : Int) + 1) ∧ (I23 z55 z77 v37_0 v37_1 w75 ∧ μ24 z55 z77 v37_0 v37_1 w75 < μ24 l19 l20 l21 l22 w26)))) ∧ (j56 = false → (∃ z78 : Int, z78 = IntKind.wrap .i64 (((k32 : Nat) : Int) + 1) ∧ (I23 l19 z78 l21 l22 w59 ∧ μ24 l19 z78 l21 l22 w59 < μ24 l19 l20 l21 l22 w26))))) ∧ ((((mget (v37_0, v37_1) es53).isSome) = true → ((a2 < z55 → ((l19 = (0 : Int) → (∀ w47 : World, Ext w45 w47 → (K57 true w47))) ∧ (¬ (l19 = (0 : Int)) → (∀ w47 : World, Ext w45 w47 → (K57 (decide (z55 < l19)) w47))))) ∧ (¬ (a2 < z55) → (∀ w47 : World, Ext w45 w47 → (K57 false w47))))) ∧ (((mget (v37_0, v37_1) es53).isSome) = false → (∀ w47 : World, Ext w45 w47 → (K57 false w47))))))))))))))) ∧ (¬ (l20 < ((r16.n : Nat) : Int)) → (∀ w79 : World, Chg (fun b => b = b1) w26 w79 → (R l21 l22 l19 (decide (l19 ≠ (0 : Int))) w79)))))))))
set_option maxRecDepth 100000 in
theorem vc_apply_Coder_next {a0 : Option Addr} {a1 : Option Addr} {a2 : Int} {R : Int → Int → Int → Bool → World → Prop} {w : World} (h : VC_apply_Coder_next a0 a1 a2 R w) : Calls PP n_apply_Coder_next #[.pointer a0, .pointer a1, .int .i64 a2] w fun e w' => ∃ r0_0 : Int, ∃ r0_1 : Int, ∃ r1 : Int, ∃ r2 : Bool, e = .returned (.tuple #[.agg #[.int .i64 r0_0, .int .i64 r0_1], .int .i64 r1, .bool r2]) ∧ R r0_0 r0_1 r1 r2 w' := by
  refine Calls.mono (calls_of_cw (n := 56) (rs := #[.cell 6 94, .tmp 7, .tmp 8]) (args := [.pointer a0, .pointer a1, .int .i64 a2]) (R := fun v w' => ∃ r0_0 : Int, ∃ r0_1 : Int, ∃ r1 : Int, ∃ r2 : Bool, v = .tuple #[.agg #[.int .i64 r0_0, .int .i64 r0_1], .int .i64 r1, .bool r2] ∧ R r0_0 r0_1 r1 r2 w') Try.func61 rfl rfl (Nat.le_of_ble_eq_true rfl) rfl ?_) ?_
  case refine_2 => rintro e w' ⟨v, rfl, hr⟩; obtain ⟨r0_0, r0_1, r1, r2, rfl, hr⟩ := hr; exact ⟨r0_0, r0_1, r1, r2, rfl, hr⟩
  have hx : Ext w w := Chg.refl _
  unfold VC_apply_Coder_next at h
  refine cw_seq ?_
  refine cw_region ?_
  refine sl_op rfl (al_api_Pair rfl (fun b1 w2 hN3 => ?_))
  have hB4 := hN3.here
  replace h := h b1 w2 ⟨hx.tr hN3.ext, Nat.le_trans hx.size hN3.fresh, lt_of_blk hN3.here⟩
  replace hx : Ext w2 w2 := Chg.refl _
  refine sl_v rfl (r_as rfl) ?_
  refine sl_v rfl (r_as rfl) ?_
  refine sl_nil ?_
  refine cw_seq ?_
  refine cw_region ?_
  refine sl_v rfl (bd_api_Pair (vs := []) (cs := #[.int .i64 0, .int .i64 0]) rfl rfl) ?_
  refine sl_op rfl (al_api_Pair rfl (fun b5 w6 hN7 => ?_))
  have hne8 : b1 ≠ b5 := Nat.ne_of_lt (Nat.lt_of_lt_of_le (lt_of_blk hB4) hN7.fresh)
  replace hB4 := hN7.ext.get hB4
  have hB9 := hN7.here
  replace h := h b5 w6 ⟨hx.tr hN7.ext, Nat.le_trans hx.size hN7.fresh, lt_of_blk hN7.here⟩
  replace hx : Ext w6 w6 := Chg.refl _
  refine sl_v rfl (r_as rfl) ?_
  refine sl_op rfl (st_api_Pair (vs := [.int .i64 0, .int .i64 0]) rfl rfl rfl rfl rfl ⟨_, _, hB9, Nat.le_of_ble_eq_true rfl⟩ (fun w10 hw11 => ?_))
  have hc_ := sto_chg hw11
  replace hB4 := hc_.get hB4 hne8
  replace hB9 : w10.heap[b5]? = some (.cells #[.int .i64 0, .int .i64 0] t_api_Pair (0, 0)) := sto_blk hw11 hB9
  replace h := h w10 (Chg.pre hx hc_)
  replace hx : Ext w10 w10 := Chg.refl _
  clear hc_
  refine sl_nil ?_
  refine cw_seq ?_
  refine cw_seq ?_
  refine cw_region ?_
  refine sl_v rfl (r_mv rfl) ?_
  refine sl_op rfl (ok_call c_seq_Seq_Pairs rfl (Calls.mono h (fun e12 w13 hq14 => ?_)))
  clear h
  obtain ⟨r16, he15, hk17, hk18, h⟩ := hq14
  refine ⟨_, he15, ?_⟩
  replace hB4 := hk17.trans hB4
  replace hB9 := hk18.trans hB9
  replace hx : Ext w13 w13 := Chg.refl _
  refine sl_v rfl (r_len_l (s := r16) rfl rfl Try.underlying110) ?_
  refine sl_v rfl (r_mv rfl) ?_
  refine sl_nil ?_
  refine cw_block ?_
  obtain ⟨I23, μ24, hI25, h⟩ := h
  refine cw_loop (σ := Int × Int × Int × Int) (fun s g => (upd (upd (upd (upd (upd (upd (upd (upd (nm g []) 0 (.pointer a0)) 2 (.int .i64 a2)) 6 (.pointer (some ⟨b1, 0, none⟩))) 9 (.int .i64 s.1)) 10 (.pointer (some ⟨b5, 0, none⟩))) 17 (r16.v)) 18 (.int .i64 ((r16.n : Nat) : Int))) 19 (.int .i64 s.2.1))) (fun s w => w.heap[b1]? = some (.cells #[.int .i64 0, .int .i64 0] t_api_Pair (0, 0)) ∧ w.heap[b5]? = some (.cells #[.int .i64 s.2.2.1, .int .i64 s.2.2.2] t_api_Pair (0, 0)) ∧ I23 s.1 s.2.1 s.2.2.1 s.2.2.2 w) (fun s w => μ24 s.1 s.2.1 s.2.2.1 s.2.2.2 w) (0, 0, 0, 0) _ (kp (kp (kp (kp (kp (kp (kp (kp (kn rfl) rfl) rfl) rfl) rfl) rfl) rfl) rfl) rfl) ⟨hB4, hB9, hI25⟩ ?_
  rintro ⟨l19, l20, l21, l22⟩ g27 w26 ⟨hB29, hB30, hi28⟩
  replace h := h l19 l20 l21 l22 w26 hi28
  have hx : Ext w26 w26 := Chg.refl _
  change CW _ PP _ _ _ (upd (upd (upd (upd (upd (upd (upd (upd (nm g27 []) 0 (.pointer a0)) 2 (.int .i64 a2)) 6 (.pointer (some ⟨b1, 0, none⟩))) 9 (.int .i64 l19)) 10 (.pointer (some ⟨b5, 0, none⟩))) 17 (r16.v)) 18 (.int .i64 ((r16.n : Nat) : Int))) 19 (.int .i64 l20)) _
  refine cw_seq ?_
  refine cw_region ?_
  refine sl_v rfl (r_lss rfl rfl) ?_
  refine sl_nil ?_
  refine cw_seq ?_
  refine bcases (decide (l20 < ((r16.n : Nat) : Int))) (fun hb31 => ?_) (fun hb31 => ?_)
  · replace h := h.1 (of_decide_eq_true hb31)
    refine cw_ct rfl hb31 ?_
    refine cw_skip ?_
    refine cw_seq ?_
    refine cw_block ?_
    refine cw_seq ?_
    refine cw_region ?_
    obtain ⟨k32, rfl, hk33, h⟩ := h
    obtain ⟨b34, o35, hb36, h⟩ := h
    refine sl_v rfl (ia_sl_seq_Change (s := r16) (j := k32) (o' := o35 + k32 * 3) rfl rfl hk33 hb36 rfl) ?_
    obtain ⟨v37_0, v37_1, v37_2, hc38, h⟩ := h
    refine sl_v rfl (lda_seq_Change rfl rfl hc38) ?_
    refine sl_op rfl (al_seq_Change rfl (fun b39 w40 hN41 => ?_))
    have hne42 : b1 ≠ b39 := Nat.ne_of_lt (Nat.lt_of_lt_of_le (lt_of_blk hB29) hN41.fresh)
    have hne43 : b5 ≠ b39 := Nat.ne_of_lt (Nat.lt_of_lt_of_le (lt_of_blk hB30) hN41.fresh)
    replace hB29 := hN41.ext.get hB29
    replace hB30 := hN41.ext.get hB30
    have hB44 := hN41.here
    replace h := h b39 w40 ⟨hx.tr hN41.ext, Nat.le_trans hx.size hN41.fresh, lt_of_blk hN41.here⟩
    replace hx : Ext w40 w40 := Chg.refl _
    refine sl_op rfl (st_seq_Change (vs := [.int .i64 v37_0, .int .i64 v37_1, .int .i64 v37_2]) rfl rfl rfl rfl rfl ⟨_, _, hB44, Nat.le_of_ble_eq_true rfl⟩ (fun w45 hw46 => ?_))
    have hc_ := sto_chg hw46
    replace hB29 := hc_.get hB29 hne42
    replace hB30 := hc_.get hB30 hne43
    replace hB44 : w45.heap[b39]? = some (.cells #[.int .i64 v37_0, .int .i64 v37_1, .int .i64 v37_2] t_seq_Change (0, 0)) := sto_blk hw46 hB44
    replace h := h w45 (Chg.pre hx hc_)
    replace hx : Ext w45 w45 := Chg.refl _
    clear hc_
    refine sl_nil ?_
    refine cw_seq ?_
    refine cw_still mo (by kernel_rfl) (fun w47 hd48 => ?_)
    replace hB29 := (Ext.of_drew hd48).get hB29
    replace hB30 := (Ext.of_drew hd48).get hB30
    replace hB44 := (Ext.of_drew hd48).get hB44
    replace hx := hx.tr (Ext.of_drew hd48)
    refine st_v rfl (r_mv rfl) ?_
    obtain ⟨b49, o50, rfl, h⟩ := h
    refine st_v rfl (r_nc rfl) ?_
    refine st_v rfl (fa_apply_Coder_1 (o' := o50 + 1) rfl rfl) ?_
    obtain ⟨v51, hc52, h⟩ := h
    refine st_v rfl (ld_map_api_Pair_int rfl (hx.cell hc52)) ?_
    refine st_v rfl (fa_seq_Change_0 (o' := 0) rfl rfl) ?_
    refine st_v rfl (lda_api_Pair (vs := [.int .i64 v37_0, .int .i64 v37_1]) rfl rfl (.c (cell_blk hB44 rfl) (.c (cell_blk hB44 rfl) .n))) ?_
    obtain ⟨es53, hm54, h⟩ := h
    obtain ⟨z55, hz55, h⟩ := h
    refine st_v rfl (RV.cast (v' := .tuple #[.int .i64 z55, .bool ((mget (v37_0, v37_1) es53).isSome)]) (by subst hz55; rfl) (lko_map_api_Pair_int (a := (v37_0, v37_1)) rfl rfl (Mp.ext hx hm54))) ?_
    refine st_v rfl (r_mv rfl) ?_
    refine st_v rfl (r_ex rfl rfl) ?_
    refine st_v rfl (r_ex rfl rfl) ?_
    refine st_v rfl (r_as rfl) ?_
    refine st_v rfl (r_as rfl) ?_
    refine st_nil ?_
    obtain ⟨K57, hK58, h⟩ := h
    refine cw_mid (fun f w => ∃ (g : Env) (j56 : Bool), f = (upd (upd (upd (upd (upd (upd (upd (upd (upd (upd (upd (nm g []) 0 (.pointer (some ⟨b49, o50, none⟩))) 2 (.int .i64 a2)) 6 (.pointer (some ⟨b1, 0, none⟩))) 9 (.int .i64 l19)) 10 (.pointer (some ⟨b5, 0, none⟩))) 12 (.pointer (some ⟨b39, 0, none⟩))) 13 (.int .i64 z55)) 17 (r16.v)) 18 (.int .i64 ((r16.n : Nat) : Int))) 19 (.int .i64 ((k32 : Nat) : Int))) 47 (.bool j56)) ∧ w.heap[b1]? = some (.cells #[.int .i64 0, .int .i64 0] t_api_Pair (0, 0)) ∧ w.heap[b5]? = some (.cells #[.int .i64 l21, .int .i64 l22] t_api_Pair (0, 0)) ∧ w.heap[b39]? = some (.cells #[.int .i64 v37_0, .int .i64 v37_1, .int .i64 v37_2] t_seq_Change (0, 0)) ∧ K57 j56 w) ?_ (fun _ w59 hM61 => ?_)
    ·
      refine cw_region ?_
      refine sl_v rfl (r_mv rfl) ?_
      refine sl_v rfl (r_mv rfl) ?_
      refine bcases ((mget (v37_0, v37_1) es53).isSome) (fun hb62 => ?_) (fun hb62 => ?_)
      · replace h := h.1 hb62
        refine sl_vg rfl rfl rfl hb62 (r_mv rfl) ?_
        refine sl_vg rfl rfl rfl hb62 (r_mv rfl) ?_
        refine sl_vg rfl rfl rfl hb62 (r_gtr rfl rfl) ?_
        refine sl_v rfl (r_pt rfl hb62 rfl) ?_
        refine sl_v rfl (r_mv rfl) ?_
        refine bcases (decide (a2 < z55)) (fun hb63 => ?_) (fun hb63 => ?_)
        · replace h := h.1 (of_decide_eq_true hb63)
          refine sl_vg rfl rfl rfl hb63 (r_mv rfl) ?_
          refine sl_vg rfl rfl rfl hb63 (r_eql rfl rfl) ?_
          refine sl_vg rfl rfl rfl hb63 (r_mv rfl) ?_
          refine bcases (decide (l19 = (0 : Int))) (fun hb64 => ?_) (fun hb64 => ?_)
          · replace h := h.1 (of_decide_eq_true hb64)
            refine sl_no rfl rfl rfl hb64 ?_
            refine sl_no rfl rfl rfl hb64 ?_
            refine sl_no rfl rfl rfl hb64 ?_
            refine sl_vg rfl rfl rfl hb63 (r_pt rfl hb64 rfl) ?_
            refine sl_v rfl (r_pt rfl hb63 rfl) ?_
            refine sl_nil ?_
            replace h := h _ hx
            replace hx : Ext w47 w47 := Chg.refl _
            exact ⟨_, true, (kp (kp (kp (kp (kp (kp (kp (kp (kp (kp (kp (kn rfl) rfl) rfl) rfl) rfl) rfl) rfl) rfl) rfl) rfl) rfl) rfl), hB29, hB30, hB44, h⟩
          · replace h := h.2 (of_decide_eq_false hb64)
            refine sl_vg rfl rfl rfl hb64 (r_mv rfl) ?_
            refine sl_vg rfl rfl rfl hb64 (r_mv rfl) ?_
            refine sl_vg rfl rfl rfl hb64 (r_lss rfl rfl) ?_
            refine sl_vg rfl rfl rfl hb63 (r_pf rfl hb64 rfl) ?_
            refine sl_v rfl (r_pt rfl hb63 rfl) ?_
            refine sl_nil ?_
            replace h := h _ hx
            replace hx : Ext w47 w47 := Chg.refl _
            exact ⟨_, decide (z55 < l19), (kp (kp (kp (kp (kp (kp (kp (kp (kp (kp (kp (kn rfl) rfl) rfl) rfl) rfl) rfl) rfl) rfl) rfl) rfl) rfl) rfl), hB29, hB30, hB44, h⟩
        · replace h := h.2 (of_decide_eq_false hb63)
          refine sl_no rfl rfl rfl hb63 ?_
          refine sl_no rfl rfl rfl hb63 ?_
          refine sl_no rfl rfl rfl hb63 ?_
          refine sl_nu rfl rfl rfl ?_
          refine sl_nu rfl rfl rfl ?_
          refine sl_nu rfl rfl rfl ?_
          refine sl_no rfl rfl rfl hb63 ?_
          refine sl_v rfl (r_pf rfl hb63 rfl) ?_
          refine sl_nil ?_
          replace h := h _ hx
          replace hx : Ext w47 w47 := Chg.refl _
          exact ⟨_, false, (kp (kp (kp (kp (kp (kp (kp (kp (kp (kp (kp (kn rfl) rfl) rfl) rfl) rfl) rfl) rfl) rfl) rfl) rfl) rfl) rfl), hB29, hB30, hB44, h⟩
      · replace h := h.2 hb62
        refine sl_no rfl rfl rfl hb62 ?_
        refine sl_no rfl rfl rfl hb62 ?_
        refine sl_no rfl rfl rfl hb62 ?_
        refine sl_v rfl (r_pf rfl hb62 rfl) ?_
        refine sl_v rfl (r_mv rfl) ?_
        refine sl_no rfl rfl rfl rfl ?_
        refine sl_no rfl rfl rfl rfl ?_
        refine sl_no rfl rfl rfl rfl ?_
        refine sl_nu rfl rfl rfl ?_
        refine sl_nu rfl rfl rfl ?_
        refine sl_nu rfl rfl rfl ?_
        refine sl_no rfl rfl rfl rfl ?_
        refine sl_v rfl (r_pf rfl rfl rfl) ?_
        refine sl_nil ?_
        replace h := h _ hx
        replace hx : Ext w47 w47 := Chg.refl _
        exact ⟨_, false, (kp (kp (kp (kp (kp (kp (kp (kp (kp (kp (kp (kn rfl) rfl) rfl) rfl) rfl) rfl) rfl) rfl) rfl) rfl) rfl) rfl), hB29, hB30, hB44, h⟩
    ·
      obtain ⟨g60, j56, rfl, hB69, hB70, hB71, hM61⟩ := hM61
      replace h := hK58 j56 w59 hM61
      have hx : Ext w59 w59 := Chg.refl _
      refine bcases (j56) (fun hb72 => ?_) (fun hb72 => ?_)
      · replace h := h.1 hb72
        refine cw_ct rfl hb72 ?_
        refine cw_tail 4 mo (by kernel_rfl) (fun w73 hd74 => ?_)
        replace hB69 := (Ext.of_drew hd74).get hB69
        replace hB70 := (Ext.of_drew hd74).get hB70
        replace hB71 := (Ext.of_drew hd74).get hB71
        replace hx := hx.tr (Ext.of_drew hd74)
        refine st_v rfl (r_mv rfl) ?_
        refine st_v rfl (fa_seq_Change_0 (o' := 0) rfl rfl) ?_
        refine st_v rfl (lda_api_Pair (vs := [.int .i64 v37_0, .int .i64 v37_1]) rfl rfl (.c (cell_blk hB71 rfl) (.c (cell_blk hB71 rfl) .n))) ?_
        refine st_v rfl (r_as rfl) ?_
        refine st_nil ?_
        refine tl_op rfl (st_api_Pair (vs := [.int .i64 v37_0, .int .i64 v37_1]) rfl rfl rfl rfl rfl ⟨_, _, hB70, Nat.le_of_ble_eq_true rfl⟩ (fun w75 hw76 => ?_))
        have hc_ := sto_chg hw76
        replace hB69 := hc_.get hB69 hne8
        replace hB71 := hc_.get hB71 hne43.symm
        replace hB70 : w75.heap[b5]? = some (.cells #[.int .i64 v37_0, .int .i64 v37_1] t_api_Pair (0, 0)) := sto_blk hw76 hB70
        replace h := h w75 (Chg.pre hx hc_)
        replace hx : Ext w75 w75 := Chg.refl _
        clear hc_
        refine tl_nil ?_
        refine cw_region ?_
        obtain ⟨z77, hz77, h⟩ := h
        refine sl_v rfl (r_add rfl rfl hz77) ?_
        refine sl_v rfl (r_mv rfl) ?_
        refine sl_nil ?_
        exact ⟨(z55, z77, v37_0, v37_1), _, (kp (kp (kp (kp (kp (kp (kp (kp (kn rfl) rfl) rfl) rfl) rfl) rfl) rfl) rfl) rfl), ⟨hB69, hB70, h.1⟩, h.2⟩
      · replace h := h.2 hb72
        refine cw_cf rfl hb72 ?_
        refine cw_skip ?_
        refine cw_region ?_
        obtain ⟨z78, hz78, h⟩ := h
        refine sl_v rfl (r_add rfl rfl hz78) ?_
        refine sl_v rfl (r_mv rfl) ?_
        refine sl_nil ?_
        exact ⟨(l19, z78, l21, l22), _, (kp (kp (kp (kp (kp (kp (kp (kp (kn rfl) rfl) rfl) rfl) rfl) rfl) rfl) rfl) rfl), ⟨hB69, hB70, h.1⟩, h.2⟩
  · replace h := h.2 (of_decide_eq_false hb31)
    refine cw_cf rfl hb31 ?_
    refine cw_exit ?_
    refine cw_seq ?_
    refine cw_region ?_
    refine sl_v rfl (lda_api_Pair (vs := [.int .i64 l21, .int .i64 l22]) rfl rfl (.c (cell_blk hB30 rfl) (.c (cell_blk hB30 rfl) .n))) ?_
    refine sl_v rfl (r_mv rfl) ?_
    refine sl_v rfl (r_mv rfl) ?_
    refine sl_v rfl (r_neq rfl rfl) ?_
    refine sl_op rfl (st_api_Pair (vs := [.int .i64 l21, .int .i64 l22]) rfl rfl rfl rfl rfl ⟨_, _, hB29, Nat.le_of_ble_eq_true rfl⟩ (fun w79 hw80 => ?_))
    have hc_ := sto_chg hw80
    replace hB30 := hc_.get hB30 hne8.symm
    replace hB29 : w79.heap[b1]? = some (.cells #[.int .i64 l21, .int .i64 l22] t_api_Pair (0, 0)) := sto_blk hw80 hB29
    replace h := h w79 (Chg.pre hx hc_)
    replace hx : Ext w79 w79 := Chg.refl _
    clear hc_
    refine sl_v rfl (r_as rfl) ?_
    refine sl_v rfl (r_as rfl) ?_
    refine sl_nil ?_
    refine cw_ret ?_
    exact rs_3 (rc (vs := [.int .i64 l21, .int .i64 l22]) Try.underlying94 rfl i_api_Pair rfl rfl (.c (cell_blk hB29 rfl) (.c (cell_blk hB29 rfl) .n))) (rt rfl) (rt rfl) ⟨l21, l22, l19, decide (l19 ≠ (0 : Int)), rfl, h⟩
def VC_seq_Seq_Symbols (a0 : Option Addr) (R : Sl → World → Prop) (w : World) : Prop :=
  (a0 = none → (R (⟨none, 0, 0⟩ : Sl) w)) ∧ (¬ (a0 = none) → (∃ (b2 o3 : Nat), a0 = some ⟨b2, o3, none⟩ ∧ (∃ v4 : Int, w.cell? ⟨b2, o3 + 1, none⟩ = some (.int .i64 v4) ∧ (∃ (I8 : Sl → Int → World → Prop) (μ9 : Sl → Int → World → Nat), I8 (⟨none, 0, 0⟩ : Sl) v4 w ∧ ∀ (l6 : Sl) (l7 : Int) (w11 : World), I8 l6 l7 w11 → (((0 : Int) ≤ l7 → (∃ v15 : Sl, w11.cell? ⟨b2, o3, none⟩ = some (v15.v) ∧ (∃ k17 : Nat, l7 = ((k17 : Nat) : Int) ∧ k17 < v15.n ∧ (∃ (b19 o20 : Nat), v15.b = some ⟨b19, o20, none⟩ ∧ (∃ v22 : Int, w11.cell? ⟨b19, o20 + k17 * 3, none⟩ = some (.int .i64 v22) ∧ (∃ xs32 : List Value, Own w11 t_int 1 l6 xs32 ∧ ((l6.n + 1) * 8 ≤ 140737488355328 ∧ l6.n + 1 ≤ maxLen) ∧ (∀ (s29 : Sl) (w28 : World), App w11 t_int 1 l6 xs32 1 [.int .i64 v22] s29 w28 → (∃ v35 : Sl, w28.cell? ⟨b2, o3, none⟩ = some (v35.v) ∧ (k17 < v35.n ∧ (∃ (b38 o39 : Nat), v35.b = some ⟨b38, o39, none⟩ ∧ (∃ v41 : Int, w28.cell? ⟨b38, o39 + k17 * 3 + 2, none⟩ = some (.int .i64 v41) ∧ (I8 s29 v41 w28 ∧ μ9 s29 v41 w28 < μ9 l6 l7 w11)))))))))))) ∧ (¬ ((0 : Int) ≤ l7) → (R l6 w11)))))))
set_option maxRecDepth 100000 in
theorem vc_seq_Seq_Symbols {a0 : Option Addr} {R : Sl → World → Prop} {w : World} (h : VC_seq_Seq_Symbols a0 R w) : Calls PP n_seq_Seq_Symbols #[.pointer a0] w fun e w' => ∃ r0 : Sl, e = .returned (r0.v) ∧ R r0 w' := by
  refine Calls.mono (calls_of_cw (n := 33) (rs := #[.tmp 2]) (args := [.pointer a0]) (R := fun v w' => ∃ r0 : Sl, v = r0.v ∧ R r0 w') Try.func62 rfl rfl (Nat.le_of_ble_eq_true rfl) rfl ?_) ?_
  case refine_2 => rintro e w' ⟨v, rfl, hr⟩; obtain ⟨r0, rfl, hr⟩ := hr; exact ⟨r0, rfl, hr⟩
  have hx : Ext w w := Chg.refl _
  unfold VC_seq_Seq_Symbols at h
  refine cw_seq ?_
  refine cw_region ?_
  refine sl_v rfl (r_as rfl) ?_
  refine sl_nil ?_
  refine cw_seq ?_
  refine cw_seq ?_
  refine cw_region ?_
  refine sl_v rfl (r_mv rfl) ?_
  refine sl_v rfl (p_eqn rfl rfl Try.underlying105) ?_
  refine sl_nil ?_
  refine bcases (decide (a0 = none)) (fun hb1 => ?_) (fun hb1 => ?_)
  · replace h := h.1 (of_decide_eq_true hb1)
    refine cw_ct rfl hb1 ?_
    refine cw_seq ?_
    refine cw_region ?_
    refine sl_v rfl (r_as rfl) ?_
    refine sl_nil ?_
    refine cw_ret ?_
    exact rs_1 (rt rfl) ⟨(⟨none, 0, 0⟩ : Sl), rfl, h⟩
  · replace h := h.2 (of_decide_eq_false hb1)
    refine cw_cf rfl hb1 ?_
    refine cw_skip ?_
    refine cw_seq ?_
    refine cw_region ?_
    refine sl_v rfl (r_as rfl) ?_
    refine sl_nil ?_
    refine cw_seq ?_
    refine cw_seq ?_
    refine cw_region ?_
    refine sl_v rfl (r_mv rfl) ?_
    obtain ⟨b2, o3, rfl, h⟩ := h
    refine sl_v rfl (r_nc rfl) ?_
    refine sl_v rfl (fa_seq_Seq_1 (o' := o3 + 1) rfl rfl) ?_
    obtain ⟨v4, hc5, h⟩ := h
    refine sl_v rfl (ld_int rfl hc5) ?_
    refine sl_v rfl (r_as rfl) ?_
    refine sl_nil ?_
    refine cw_block ?_
    obtain ⟨I8, μ9, hI10, h⟩ := h
    refine cw_loop (σ := Sl × Int) (fun s g => (upd (upd (upd (nm g []) 0 (.pointer (some ⟨b2, o3, none⟩))) 3 (s.1.v)) 4 (.int .i64 s.2))) (fun s w => I8 s.1 s.2 w) (fun s w => μ9 s.1 s.2 w) ((⟨none, 0, 0⟩ : Sl), v4) _ (kp (kp (kp (kn rfl) rfl) rfl) rfl) hI10 ?_
    rintro ⟨l6, l7⟩ g12 w11 hi13
    replace h := h l6 l7 w11 hi13
    have hx : Ext w11 w11 := Chg.refl _
    change CW _ PP _ _ _ (upd (upd (upd (nm g12 []) 0 (.pointer (some ⟨b2, o3, none⟩))) 3 (l6.v)) 4 (.int .i64 l7)) _
    refine cw_seq ?_
    refine cw_seq ?_
    refine cw_region ?_
    refine sl_v rfl (r_mv rfl) ?_
    refine sl_v rfl (r_geq rfl rfl) ?_
    refine sl_nil ?_
    refine bcases (decide ((0 : Int) ≤ l7)) (fun hb14 => ?_) (fun hb14 => ?_)
    · replace h := h.1 (of_decide_eq_true hb14)
      refine cw_ct rfl hb14 ?_
      refine cw_skip ?_
      refine cw_seq ?_
      refine cw_block ?_
      refine cw_region ?_
      refine sl_v rfl (r_mv rfl) ?_
      refine sl_v rfl (r_mv rfl) ?_
      refine sl_v rfl (r_nc rfl) ?_
      refine sl_v rfl (fa_seq_Seq_0 (o' := o3) rfl rfl) ?_
      obtain ⟨v15, hc16, h⟩ := h
      refine sl_v rfl (ld_sl_seq_cell rfl hc16) ?_
      refine sl_v rfl (r_mv rfl) ?_
      obtain ⟨k17, rfl, hk18, h⟩ := h
      obtain ⟨b19, o20, hb21, h⟩ := h
      refine sl_v rfl (ia_sl_seq_cell (s := v15) (j := k17) (o' := o20 + k17 * 3) rfl rfl hk18 hb21 rfl) ?_
      refine sl_v rfl (fa_seq_cell_0 (o' := o20 + k17 * 3) rfl rfl) ?_
      obtain ⟨v22, hc23, h⟩ := h
      refine sl_v rfl (ld_int rfl hc23) ?_
      refine sl_op rfl (bs_sl_int (len := 1) (vs := [(0, .int .i64 v22)]) (cs := #[.int .i64 v22]) (by decide) rfl rfl (fun b24 w25 hN26 => ?_))
      have hB27 := hN26.here
      replace hx := hx.tr hN26.ext
      obtain ⟨xs32, ho33, hb34, h⟩ := h
      refine sl_op rfl (ap_sl_int (s := l6) (xs := xs32) (m := 1) (news := [.int .i64 v22]) rfl rfl hx ho33 (.c (cell_blk hB27 rfl) .n) rfl rfl hb34 (fun s29 w28 ha30 hc31 => ?_))
      replace h := h s29 w28 ha30
      replace hx : Ext w28 w28 := Chg.refl _
      refine sl_v rfl (r_as rfl) ?_
      refine sl_nil ?_
      refine cw_region ?_
      refine sl_v rfl (r_mv rfl) ?_
      refine sl_v rfl (r_nc rfl) ?_
      refine sl_v rfl (fa_seq_Seq_0 (o' := o3) rfl rfl) ?_
      obtain ⟨v35, hc36, h⟩ := h
      refine sl_v rfl (ld_sl_seq_cell rfl hc36) ?_
      refine sl_v rfl (r_mv rfl) ?_
      obtain ⟨hk37, h⟩ := h
      obtain ⟨b38, o39, hb40, h⟩ := h
      refine sl_v rfl (ia_sl_seq_cell (s := v35) (j := k17) (o' := o39 + k17 * 3) rfl rfl hk37 hb40 rfl) ?_
      refine sl_v rfl (fa_seq_cell_2 (o' := o39 + k17 * 3 + 2) rfl rfl) ?_
      obtain ⟨v41, hc42, h⟩ := h
      refine sl_v rfl (ld_int rfl hc42) ?_
      refine sl_v rfl (r_as rfl) ?_
      refine sl_nil ?_
      exact ⟨(s29, v41), _, (kp (kp (kp (kn rfl) rfl) rfl) rfl), h.1, h.2⟩
    · replace h := h.2 (of_decide_eq_false hb14)
      refine cw_cf rfl hb14 ?_
      refine cw_exit ?_
      refine cw_seq ?_
      refine cw_region ?_
      refine sl_v rfl (r_mv rfl) ?_
      refine sl_v rfl (r_as rfl) ?_
      refine sl_nil ?_
      refine cw_ret ?_
      exact rs_1 (rt rfl) ⟨l6, rfl, h⟩

def VC_seq_Seq_Merge (a0 : Option Addr) (a1_0 : Int) (a1_1 : Int) (a2 : Int) (R : Int → Sl → World → Prop) (w : World) : Prop :=
  ∀ (b1 : Nat) (w2 : World), Priv w b1 w2 → ((a0 = none → (R 0 (⟨none, 0, 0⟩ : Sl) w2)) ∧ (¬ (a0 = none) → (∀ (b6 : Nat) (w7 : World), New w2 b6 (.map #[] 0) w7 → (∃ (b9 o10 : Nat), a0 = some ⟨b9, o10, none⟩ ∧ (∃ v11 : Int, w7.cell? ⟨b9, o10 + 1, none⟩ = some (.int .i64 v11) ∧ (∃ (I15 : Int → Int → World → Prop) (μ16 : Int → Int → World → Nat), I15 0 v11 w7 ∧ ∀ (l13 : Int) (l14 : Int) (w18 : World), I15 l13 l14 w18 → (((0 : Int) ≤ l14 → (∃ K24 : Int → World → Prop, (∀ (j23 : Int) (w26 : World), K24 j23 w26 → (∃ v59 : Sl, w26.cell? ⟨b9, o10, none⟩ = some (v59.v) ∧ (∃ k61 : Nat, l14 = ((k61 : Nat) : Int) ∧ k61 < v59.n ∧ (∃ (b63 o64 : Nat), v59.b = some ⟨b63, o64, none⟩ ∧ (∃ v66 : Int, w26.cell? ⟨b63, o64 + k61 * 3 + 2, none⟩ = some (.int .i64 v66) ∧ (I15 j23 v66 w26 ∧ μ16 j23 v66 w26 < μ16 l13 l14 w18)))))) ∧ (Calls PP n_seq_Seq_pair #[.pointer (some ⟨b9, o10, none⟩), .int .i64 l14] w18 (fun e w30 => ∃ r33_0_0 : Int, ∃ r33_0_1 : Int, ∃ r33_1 : Bool, e = .returned (.tuple #[.agg #[.int .i64 r33_0_0, .int .i64 r33_0_1], .bool r33_1]) ∧ w30.heap[b1]? = w18.heap[b1]? ∧ (∀ (b35 : Nat) (w36 : World), Priv w30 b35 w36 → (∀ w40 : World, Chg (fun b => b = b35) w36 w40 → (∃ K43 : Bool → World → Prop, (∀ (j42 : Bool) (w45 : World), K43 j42 w45 → ((j42 = true → (Calls PP n_seq_Seq_join #[.pointer (some ⟨b9, o10, none⟩), .map (some b6), .int .i64 l14, .int .i64 a2] w45 (fun e w52 => e = .returned (.tuple #[]) ∧ w52.heap[b1]? = w45.heap[b1]? ∧ (∃ z57 : Int, z57 = IntKind.wrap .i64 (l13 + 1) ∧ (K24 z57 w52))))) ∧ (j42 = false → (K24 l13 w45)))) ∧ ((r33_1 = true → (K43 (decide ((r33_0_0 = a1_0) ∧ (r33_0_1 = a1_1))) w40)) ∧ (r33_1 = false → (K43 false w40)))))))))) ∧ (¬ ((0 : Int) ≤ l14) → (Calls PP n_seq_ledger_list #[.map (some b6)] w18 (fun e w69 => ∃ r72 : Sl, e = .returned (r72.v) ∧ w69.heap[b1]? = w18.heap[b1]? ∧ (R l13 r72 w69)))))))))))
set_option maxRecDepth 100000 in
theorem vc_seq_Seq_Merge {a0 : Option Addr} {a1_0 : Int} {a1_1 : Int} {a2 : Int} {R : Int → Sl → World → Prop} {w : World} (h : VC_seq_Seq_Merge a0 a1_0 a1_1 a2 R w) : Calls PP n_seq_Seq_Merge #[.pointer a0, .agg #[.int .i64 a1_0, .int .i64 a1_1], .int .i64 a2] w fun e w' => ∃ r0 : Int, ∃ r1 : Sl, e = .returned (.tuple #[.int .i64 r0, r1.v]) ∧ R r0 r1 w' := by
  refine Calls.mono (calls_of_cw (n := 52) (rs := #[.tmp 6, .tmp 7]) (args := [.pointer a0, .agg #[.int .i64 a1_0, .int .i64 a1_1], .int .i64 a2]) (R := fun v w' => ∃ r0 : Int, ∃ r1 : Sl, v = .tuple #[.int .i64 r0, r1.v] ∧ R r0 r1 w') Try.func63 rfl rfl (Nat.le_of_ble_eq_true rfl) rfl ?_) ?_
  case refine_2 => rintro e w' ⟨v, rfl, hr⟩; obtain ⟨r0, r1, rfl, hr⟩ := hr; exact ⟨r0, r1, rfl, hr⟩
  have hx : Ext w w := Chg.refl _
  unfold VC_seq_Seq_Merge at h
  refine cw_seq ?_
  refine cw_region ?_
  refine sl_op rfl (bx_api_Pair rfl rfl (fun b1 w2 hN3 => ?_))
  have hB4 := hN3.here
  replace h := h b1 w2 ⟨hx.tr hN3.ext, Nat.le_trans hx.size hN3.fresh, lt_of_blk hN3.here⟩
  replace hx : Ext w2 w2 := Chg.refl _
  refine sl_v rfl (r_as rfl) ?_
  refine sl_v rfl (r_as rfl) ?_
  refine sl_nil ?_
  refine cw_seq ?_
  refine cw_seq ?_
  refine cw_region ?_
  refine sl_v rfl (r_mv rfl) ?_
  refine sl_v rfl (p_eqn rfl rfl Try.underlying105) ?_
  refine sl_nil ?_
  refine bcases (decide (a0 = none)) (fun hb5 => ?_) (fun hb5 => ?_)
  · replace h := h.1 (of_decide_eq_true hb5)
    refine cw_ct rfl hb5 ?_
    refine cw_seq ?_
    refine cw_region ?_
    refine sl_v rfl (r_as rfl) ?_
    refine sl_v rfl (r_as rfl) ?_
    refine sl_nil ?_
    refine cw_ret ?_
    exact rs_2 (rt rfl) (rt rfl) ⟨0, (⟨none, 0, 0⟩ : Sl), rfl, h⟩
  · replace h := h.2 (of_decide_eq_false hb5)
    refine cw_cf rfl hb5 ?_
    refine cw_skip ?_
    refine cw_seq ?_
    refine cw_region ?_
    refine sl_op rfl (ok_mm (fun b6 w7 hN8 => ?_) rfl)
    replace hB4 := hN8.ext.get hB4
    replace h := h b6 w7 hN8
    replace hx : Ext w7 w7 := Chg.refl _
    refine sl_v rfl (r_as rfl) ?_
    refine sl_nil ?_
    refine cw_seq ?_
    refine cw_region ?_
    refine sl_v rfl (r_as rfl) ?_
    refine sl_nil ?_
    refine cw_seq ?_
    refine cw_seq ?_
    refine cw_region ?_
    refine sl_v rfl (r_mv rfl) ?_
    obtain ⟨b9, o10, rfl, h⟩ := h
    refine sl_v rfl (r_nc rfl) ?_
    refine sl_v rfl (fa_seq_Seq_1 (o' := o10 + 1) rfl rfl) ?_
    obtain ⟨v11, hc12, h⟩ := h
    refine sl_v rfl (ld_int rfl hc12) ?_
    refine sl_v rfl (r_as rfl) ?_
    refine sl_nil ?_
    refine cw_block ?_
    obtain ⟨I15, μ16, hI17, h⟩ := h
    refine cw_loop (σ := Int × Int) (fun s g => (upd (upd (upd (upd (upd (upd (nm g []) 0 (.pointer (some ⟨b9, o10, none⟩))) 2 (.int .i64 a2)) 4 (.pointer (some ⟨b1, 0, none⟩))) 8 (.map (some b6))) 9 (.int .i64 s.1)) 10 (.int .i64 s.2))) (fun s w => w.heap[b1]? = some (.cells #[.int .i64 a1_0, .int .i64 a1_1] t_api_Pair (0, 0)) ∧ I15 s.1 s.2 w) (fun s w => μ16 s.1 s.2 w) (0, v11) _ (kp (kp (kp (kp (kp (kp (kn rfl) rfl) rfl) rfl) rfl) rfl) rfl) ⟨hB4, hI17⟩ ?_
    rintro ⟨l13, l14⟩ g19 w18 ⟨hB21, hi20⟩
    replace h := h l13 l14 w18 hi20
    have hx : Ext w18 w18 := Chg.refl _
    change CW _ PP _ _ _ (upd (upd (upd (upd (upd (upd (nm g19 []) 0 (.pointer (some ⟨b9, o10, none⟩))) 2 (.int .i64 a2)) 4 (.pointer (some ⟨b1, 0, none⟩))) 8 (.map (some b6))) 9 (.int .i64 l13)) 10 (.int .i64 l14)) _
    refine cw_seq ?_
    refine cw_seq ?_
    refine cw_region ?_
    refine sl_v rfl (r_mv rfl) ?_
    refine sl_v rfl (r_geq rfl rfl) ?_
    refine sl_nil ?_
    refine bcases (decide ((0 : Int) ≤ l14)) (fun hb22 => ?_) (fun hb22 => ?_)
    · replace h := h.1 (of_decide_eq_true hb22)
      refine cw_ct rfl hb22 ?_
      refine cw_skip ?_
      obtain ⟨K24, hK25, h⟩ := h
      refine cw_mid (fun f w => ∃ (g : Env) (j23 : Int), f = (upd (upd (upd (upd (upd (upd (nm g []) 0 (.pointer (some ⟨b9, o10, none⟩))) 2 (.int .i64 a2)) 4 (.pointer (some ⟨b1, 0, none⟩))) 8 (.map (some b6))) 9 (.int .i64 j23)) 10 (.int .i64 l14)) ∧ w.heap[b1]? = some (.cells #[.int .i64 a1_0, .int .i64 a1_1] t_api_Pair (0, 0)) ∧ K24 j23 w) ?_ (fun _ w26 hM28 => ?_)
      ·
        refine cw_block ?_
        refine cw_seq ?_
        refine cw_region ?_
        refine sl_v rfl (r_mv rfl) ?_
        refine sl_v rfl (r_mv rfl) ?_
        refine sl_op rfl (ok_call c_seq_Seq_pair rfl (Calls.mono h (fun e29 w30 hq31 => ?_)))
        clear h
        obtain ⟨r33_0_0, r33_0_1, r33_1, he32, hk34, h⟩ := hq31
        refine ⟨_, he32, ?_⟩
        replace hB21 := hk34.trans hB21
        replace hx : Ext w30 w30 := Chg.refl _
        refine sl_v rfl (r_mv rfl) ?_
        refine sl_v rfl (r_ex rfl rfl) ?_
        refine sl_v rfl (r_ex rfl rfl) ?_
        refine sl_op rfl (al_api_Pair rfl (fun b35 w36 hN37 => ?_))
        have hne38 : b1 ≠ b35 := Nat.ne_of_lt (Nat.lt_of_lt_of_le (lt_of_blk hB21) hN37.fresh)
        replace hB21 := hN37.ext.get hB21
        have hB39 := hN37.here
        replace h := h b35 w36 ⟨hx.tr hN37.ext, Nat.le_trans hx.size hN37.fresh, lt_of_blk hN37.here⟩
        replace hx : Ext w36 w36 := Chg.refl _
        refine sl_op rfl (st_api_Pair (vs := [.int .i64 r33_0_0, .int .i64 r33_0_1]) rfl rfl rfl rfl rfl ⟨_, _, hB39, Nat.le_of_ble_eq_true rfl⟩ (fun w40 hw41 => ?_))
        have hc_ := sto_chg hw41
        replace hB21 := hc_.get hB21 hne38
        replace hB39 : w40.heap[b35]? = some (.cells #[.int .i64 r33_0_0, .int .i64 r33_0_1] t_api_Pair (0, 0)) := sto_blk hw41 hB39
        replace h := h w40 (Chg.pre hx hc_)
        replace hx : Ext w40 w40 := Chg.refl _
        clear hc_
        refine sl_v rfl (r_as rfl) ?_
        refine sl_nil ?_
        obtain ⟨K43, hK44, h⟩ := h
        refine cw_mid (fun f w => ∃ (g : Env) (j42 : Bool), f = (upd (upd (upd (upd (upd (upd (upd (nm g []) 0 (.pointer (some ⟨b9, o10, none⟩))) 2 (.int .i64 a2)) 4 (.pointer (some ⟨b1, 0, none⟩))) 8 (.map (some b6))) 9 (.int .i64 l13)) 10 (.int .i64 l14)) 41 (.bool j42)) ∧ w.heap[b1]? = some (.cells #[.int .i64 a1_0, .int .i64 a1_1] t_api_Pair (0, 0)) ∧ K43 j42 w) ?_ (fun _ w45 hM47 => ?_)
        ·
          refine cw_region ?_
          refine sl_v rfl (r_mv rfl) ?_
          refine sl_v rfl (r_mv rfl) ?_
          refine bcases (r33_1) (fun hb48 => ?_) (fun hb48 => ?_)
          · replace h := h.1 hb48
            refine sl_vg rfl rfl rfl hb48 (lda_api_Pair (vs := [.int .i64 r33_0_0, .int .i64 r33_0_1]) rfl rfl (.c (cell_blk hB39 rfl) (.c (cell_blk hB39 rfl) .n))) ?_
            refine sl_vg rfl rfl rfl hb48 (lda_api_Pair (vs := [.int .i64 a1_0, .int .i64 a1_1]) rfl rfl (.c (cell_blk hB21 rfl) (.c (cell_blk hB21 rfl) .n))) ?_
            refine sl_vg rfl rfl rfl hb48 (a_eql (xs := #[.int .i64 r33_0_0, .int .i64 r33_0_1]) (ys := #[.int .i64 a1_0, .int .i64 a1_1]) (bs := [decide (r33_0_0 = a1_0), decide (r33_0_1 = a1_1)]) Try.underlying94 eqf_api_Pair rfl rfl (.cons rfl (feq_int Try.underlying3 rfl rfl) (.cons rfl (feq_int Try.underlying3 rfl rfl) .nil)) al2) ?_
            refine sl_v rfl (r_pt rfl hb48 rfl) ?_
            refine sl_nil ?_
            exact ⟨_, decide ((r33_0_0 = a1_0) ∧ (r33_0_1 = a1_1)), (kp (kp (kp (kp (kp (kp (kp (kn rfl) rfl) rfl) rfl) rfl) rfl) rfl) rfl), hB21, h⟩
          · replace h := h.2 hb48
            refine sl_no rfl rfl rfl hb48 ?_
            refine sl_no rfl rfl rfl hb48 ?_
            refine sl_no rfl rfl rfl hb48 ?_
            refine sl_v rfl (r_pf rfl hb48 rfl) ?_
            refine sl_nil ?_
            exact ⟨_, false, (kp (kp (kp (kp (kp (kp (kp (kn rfl) rfl) rfl) rfl) rfl) rfl) rfl) rfl), hB21, h⟩
        ·
          obtain ⟨g46, j42, rfl, hB49, hM47⟩ := hM47
          replace h := hK44 j42 w45 hM47
          have hx : Ext w45 w45 := Chg.refl _
          refine bcases (j42) (fun hb50 => ?_) (fun hb50 => ?_)
          · replace h := h.1 hb50
            refine cw_ct rfl hb50 ?_
            refine cw_seq ?_
            refine cw_region ?_
            refine sl_v rfl (r_mv rfl) ?_
            refine sl_v rfl (r_mv rfl) ?_
            refine sl_v rfl (r_mv rfl) ?_
            refine sl_v rfl (r_mv rfl) ?_
            refine sl_op rfl (ok_call c_seq_Seq_join rfl (Calls.mono h (fun e51 w52 hq53 => ?_)))
            clear h
            obtain ⟨he54, hk56, h⟩ := hq53
            refine ⟨_, he54, ?_⟩
            replace hB49 := hk56.trans hB49
            replace hx : Ext w52 w52 := Chg.refl _
            refine sl_nil ?_
            refine cw_region ?_
            refine sl_v rfl (r_mv rfl) ?_
            obtain ⟨z57, hz57, h⟩ := h
            refine sl_v rfl (r_add rfl rfl hz57) ?_
            refine sl_v rfl (r_as rfl) ?_
            refine sl_nil ?_
            exact ⟨_, z57, (kp (kp (kp (kp (kp (kp (kn rfl) rfl) rfl) rfl) rfl) rfl) rfl), hB49, h⟩
          · replace h := h.2 hb50
            refine cw_cf rfl hb50 ?_
            refine cw_skip ?_
            exact ⟨_, l13, (kp (kp (kp (kp (kp (kp (kn rfl) rfl) rfl) rfl) rfl) rfl) rfl), hB49, h⟩
      ·
        obtain ⟨g27, j23, rfl, hB58, hM28⟩ := hM28
        replace h := hK25 j23 w26 hM28
        have hx : Ext w26 w26 := Chg.refl _
        refine cw_region ?_
        refine sl_v rfl (r_mv rfl) ?_
        refine sl_v rfl (r_nc rfl) ?_
        refine sl_v rfl (fa_seq_Seq_0 (o' := o10) rfl rfl) ?_
        obtain ⟨v59, hc60, h⟩ := h
        refine sl_v rfl (ld_sl_seq_cell rfl hc60) ?_
        refine sl_v rfl (r_mv rfl) ?_
        obtain ⟨k61, rfl, hk62, h⟩ := h
        obtain ⟨b63, o64, hb65, h⟩ := h
        refine sl_v rfl (ia_sl_seq_cell (s := v59) (j := k61) (o' := o64 + k61 * 3) rfl rfl hk62 hb65 rfl) ?_
        refine sl_v rfl (fa_seq_cell_2 (o' := o64 + k61 * 3 + 2) rfl rfl) ?_
        obtain ⟨v66, hc67, h⟩ := h
        refine sl_v rfl (ld_int rfl hc67) ?_
        refine sl_v rfl (r_as rfl) ?_
        refine sl_nil ?_
        exact ⟨(j23, v66), _, (kp (kp (kp (kp (kp (kp (kn rfl) rfl) rfl) rfl) rfl) rfl) rfl), ⟨hB58, h.1⟩, h.2⟩
    · replace h := h.2 (of_decide_eq_false hb22)
      refine cw_cf rfl hb22 ?_
      refine cw_exit ?_
      refine cw_seq ?_
      refine cw_region ?_
      refine sl_v rfl (r_mv rfl) ?_
      refine sl_v rfl (r_mv rfl) ?_
      refine sl_op rfl (ok_call c_seq_ledger_list rfl (Calls.mono h (fun e68 w69 hq70 => ?_)))
      clear h
      obtain ⟨r72, he71, hk73, h⟩ := hq70
      refine ⟨_, he71, ?_⟩
      replace hB21 := hk73.trans hB21
      replace hx : Ext w69 w69 := Chg.refl _
      refine sl_v rfl (r_as rfl) ?_
      refine sl_v rfl (r_as rfl) ?_
      refine sl_nil ?_
      refine cw_ret ?_
      exact rs_2 (rt rfl) (rt rfl) ⟨l13, r72, rfl, h⟩

end Go.Proofs.Ytchjcjocihckpaa.G
