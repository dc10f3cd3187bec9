/- What is to be shown of each function, and that it is enough. -/
import Derived.Test.YtchjcjocihckpaaTC
set_option linter.unusedVariables false
namespace Go.Proofs.Ytchjcjocihckpaa.G
open Go Go.RowKit
def VC_ref18_Check (a0 : Sl) (R : Int → Int → World → Prop) (w : World) : Prop :=
  ∃ (I2 : Int → World → Prop) (μ3 : Int → World → Nat), I2 0 w ∧ ∀ (l1 : Int) (w5 : World), I2 l1 w5 → ((l1 < ((a0.n : Nat) : Int) → (∃ K10 : Bool → World → Prop, (∀ (j9 : Bool) (w12 : World), K10 j9 w12 → ((j9 = true → (R l1 7 w12)) ∧ (j9 = false → (∃ k45 : Nat, l1 = ((k45 : Nat) : Int) ∧ k45 < a0.n ∧ (∃ (b47 o48 : Nat), a0.b = some ⟨b47, o48, none⟩ ∧ (∃ v50 : ByteArray, w12.cell? ⟨b47, o48 + k45 * 2, none⟩ = some (.string v50) ∧ (∃ v52 : ByteArray, w12.cell? ⟨b47, o48 + k45 * 2 + 1, none⟩ = some (.string v52) ∧ (∃ z54 : Int, z54 = IntKind.wrap .i64 (((v50.size : Nat) : Int) + ((v52.size : Nat) : Int)) ∧ (((65536 : Int) < z54 → (∀ w43 : World, Ext w12 w43 → (R ((k45 : Nat) : Int) 4 w43))) ∧ (¬ ((65536 : Int) < z54) → (∀ w43 : World, Ext w12 w43 → (∃ (I59 : Int → World → Prop) (μ60 : Int → World → Nat), I59 0 w43 ∧ ∀ (l58 : Int) (w62 : World), I59 l58 w62 → ((l58 < ((k45 : Nat) : Int) → (∃ k68 : Nat, l58 = ((k68 : Nat) : Int) ∧ k68 < a0.n ∧ (∃ (b70 o71 : Nat), a0.b = some ⟨b70, o71, none⟩ ∧ (∃ v73 : ByteArray, w62.cell? ⟨b70, o71 + k68 * 2, none⟩ = some (.string v73) ∧ (∃ v75 : ByteArray, w62.cell? ⟨b70, o71 + k68 * 2 + 1, none⟩ = some (.string v75) ∧ (v73.size + v75.size ≤ 9223372036854775807 ∧ (k45 < a0.n ∧ (∃ v79 : ByteArray, w62.cell? ⟨b70, o71 + k45 * 2, none⟩ = some (.string v79) ∧ (∃ v81 : ByteArray, w62.cell? ⟨b70, o71 + k45 * 2 + 1, none⟩ = some (.string v81) ∧ (v79.size + v81.size ≤ 9223372036854775807 ∧ (((v73 ++ v75) = (v79 ++ v81) → (∀ w66 : World, Ext w62 w66 → (R ((k45 : Nat) : Int) 8 w66))) ∧ (¬ ((v73 ++ v75) = (v79 ++ v81)) → (∃ z86 : Int, z86 = IntKind.wrap .i64 (((k68 : Nat) : Int) + 1) ∧ (∀ w66 : World, Ext w62 w66 → (I59 z86 w66 ∧ μ60 z86 w66 < μ60 l58 w62))))))))))))))) ∧ (¬ (l58 < ((k45 : Nat) : Int)) → (∃ z88 : Int, z88 = IntKind.wrap .i64 (((k45 : Nat) : Int) + 1) ∧ (I2 z88 w62 ∧ μ3 z88 w62 < μ3 l1 w5)))))))))))))))) ∧ (∃ k15 : Nat, l1 = ((k15 : Nat) : Int) ∧ k15 < a0.n ∧ (∃ (b17 o18 : Nat), a0.b = some ⟨b17, o18, none⟩ ∧ (∃ v20 : ByteArray, w5.cell? ⟨b17, o18 + k15 * 2, none⟩ = some (.string v20) ∧ ((0 ≤ k15 ∧ k15 ≤ a0.c) ∧ (∀ w23 : World, Ext w5 w23 → (Calls PP n_ref18_side #[.string v20, (a0.sub 0 k15 2).v] w23 (fun e w27 => ∃ r30 : Bool, e = .returned (.bool r30) ∧ (w27.cell? ⟨b17, o18 + k15 * 2, none⟩ = some (.string v20) ∧ ((r30 = true → ((0 ≤ k15 ∧ k15 ≤ a0.c) ∧ (∃ v34 : ByteArray, w27.cell? ⟨b17, o18 + k15 * 2 + 1, none⟩ = some (.string v34) ∧ (Calls PP n_ref18_side #[.string v34, (a0.sub 0 k15 2).v] w27 (fun e w37 => ∃ r40 : Bool, e = .returned (.bool r40) ∧ (w37.cell? ⟨b17, o18 + k15 * 2, none⟩ = some (.string v20) ∧ (K10 (!r40) w37))))))) ∧ (r30 = false → (K10 true w27))))))))))))) ∧ (¬ (l1 < ((a0.n : Nat) : Int)) → (R (-1) 0 w5)))
set_option maxRecDepth 100000 in
theorem vc_ref18_Check {a0 : Sl} {R : Int → Int → World → Prop} {w : World} (h : VC_ref18_Check a0 R w) : Calls PP n_ref18_Check #[a0.v] w fun e w' => ∃ r0 : Int, ∃ r1 : Int, e = .returned (.tuple #[.int .i64 r0, .int .i64 r1]) ∧ R r0 r1 w' := by
  refine Calls.mono (calls_of_cw (n := 79) (rs := #[.tmp 2, .tmp 3]) (args := [a0.v]) (R := fun v w' => ∃ r0 : Int, ∃ r1 : Int, v = .tuple #[.int .i64 r0, .int .i64 r1] ∧ R r0 r1 w') Try.func11 rfl rfl (Nat.le_of_ble_eq_true rfl) rfl ?_) ?_
  case refine_2 => rintro e w' ⟨v, rfl, hr⟩; obtain ⟨r0, r1, rfl, hr⟩ := hr; exact ⟨r0, r1, rfl, hr⟩
  have hx : Ext w w := Chg.refl _
  unfold VC_ref18_Check at h
  refine cw_seq ?_
  refine cw_region ?_
  refine sl_v rfl (r_as rfl) ?_
  refine sl_v rfl (r_as rfl) ?_
  refine sl_nil ?_
  refine cw_seq ?_
  refine cw_seq ?_
  refine cw_region ?_
  refine sl_v rfl (r_as rfl) ?_
  refine sl_nil ?_
  refine cw_block ?_
  obtain ⟨I2, μ3, hI4, h⟩ := h
  refine cw_loop (σ := Int) (fun s g => (upd (upd (nm g []) 0 (a0.v)) 4 (.int .i64 s))) (fun s w => I2 s w) (fun s w => μ3 s w) (0) _ (kp (kp (kn rfl) rfl) rfl) hI4 ?_
  rintro l1 g6 w5 hi7
  replace h := h l1 w5 hi7
  have hx : Ext w5 w5 := Chg.refl _
  change CW _ PP _ _ _ (upd (upd (nm g6 []) 0 (a0.v)) 4 (.int .i64 l1)) _
  refine cw_seq ?_
  refine cw_seq ?_
  refine cw_region ?_
  refine sl_v rfl (r_mv rfl) ?_
  refine sl_v rfl (r_mv rfl) ?_
  refine sl_v rfl (r_len_l (s := a0) rfl rfl Try.underlying22) ?_
  refine sl_v rfl (r_lss rfl rfl) ?_
  refine sl_nil ?_
  refine bcases (decide (l1 < ((a0.n : Nat) : Int))) (fun hb8 => ?_) (fun hb8 => ?_)
  · replace h := h.1 (of_decide_eq_true hb8)
    refine cw_ct rfl hb8 ?_
    refine cw_skip ?_
    refine cw_seq ?_
    refine cw_block ?_
    refine cw_seq ?_
    obtain ⟨K10, hK11, h⟩ := h
    refine cw_mid (fun f w => ∃ (g : Env) (j9 : Bool), f = (upd (upd (upd (nm g []) 0 (a0.v)) 4 (.int .i64 l1)) 33 (.bool j9)) ∧ K10 j9 w) ?_ (fun _ w12 hM14 => ?_)
    ·
      obtain ⟨k15, rfl, hk16, h⟩ := h
      obtain ⟨b17, o18, hb19, h⟩ := h
      obtain ⟨v20, hc21, h⟩ := h
      obtain ⟨hr22, h⟩ := h
      refine cw_dw (S := fun w' => w'.cell? ⟨b17, o18 + k15 * 2, none⟩ = some (.string v20) ∧ True) mo (fun w23 hd24 => ?_)
      replace hx := hx.tr (Ext.of_drew hd24)
      have hS : w23.cell? ⟨b17, o18 + k15 * 2, none⟩ = some (.string v20) ∧ True := ⟨hx.cell hc21, trivial⟩
      refine dw_t 0 1 rfl (by kernel_rfl) rfl hS (fun _ _ => (r_mv rfl)) ?_
      refine dw_t 1 3 rfl (by kernel_rfl) rfl hS (fun _ _ => (r_mv rfl)) ?_
      refine dw_t 2 7 rfl (by kernel_rfl) rfl hS (fun _ _ => (ia_sl_api_Merge (s := a0) (j := k15) (o' := o18 + k15 * 2) rfl rfl hk16 hb19 rfl)) ?_
      refine dw_t 3 15 rfl (by kernel_rfl) rfl hS (fun _ _ => (fa_api_Merge_0 (o' := o18 + k15 * 2) rfl rfl)) ?_
      refine dw_t 4 31 rfl (by kernel_rfl) rfl hS (fun _ hS => (ld_string rfl hS.1)) ?_
      refine dw_t 5 63 rfl (by kernel_rfl) rfl hS (fun _ _ => (r_mv rfl)) ?_
      refine dw_t 6 127 rfl (by kernel_rfl) rfl hS (fun _ _ => (r_mv rfl)) ?_
      refine dw_t 7 255 rfl (by kernel_rfl) rfl hS (fun _ _ => (sl_sl_api_Merge (s := a0) (l := 0) (h := k15) rfl rfl rfl (fun _ => rfl) (by intro h; cases h) hr22)) ?_
      replace h := h _ hx
      replace hx : Ext w23 w23 := Chg.refl _
      refine dw_l 8 511 rfl (by kernel_rfl) rfl (ok_call c_ref18_side rfl (Calls.mono h (fun e26 w27 hq28 => ?_)))
      clear h
      obtain ⟨r30, he29, h⟩ := hq28
      refine ⟨_, he29, ?_⟩
      replace hx : Ext w27 w27 := Chg.refl _
      obtain ⟨hq31, h⟩ := h
      replace hS : w27.cell? ⟨b17, o18 + k15 * 2, none⟩ = some (.string v20) ∧ True := ⟨hq31, trivial⟩
      refine ⟨hS, ?_⟩
      refine dw_t 9 1023 rfl (by kernel_rfl) rfl hS (fun _ _ => (r_not rfl)) ?_
      refine dw_t 10 2047 rfl (by kernel_rfl) rfl hS (fun _ _ => (r_mv rfl)) ?_
      refine bcases (r30) (fun hb32 => ?_) (fun hb32 => ?_)
      · replace h := h.1 hb32
        refine dw_tg 11 4095 rfl (by kernel_rfl) rfl rfl rfl (nt hb32) hS (fun _ _ => (r_mv rfl)) ?_
        refine dw_tg 12 8191 rfl (by kernel_rfl) rfl rfl rfl (nt hb32) hS (fun _ _ => (r_mv rfl)) ?_
        refine dw_tg 13 16383 rfl (by kernel_rfl) rfl rfl rfl (nt hb32) hS (fun _ _ => (ia_sl_api_Merge (s := a0) (j := k15) (o' := o18 + k15 * 2) rfl rfl hk16 hb19 rfl)) ?_
        refine dw_tg 14 32767 rfl (by kernel_rfl) rfl rfl rfl (nt hb32) hS (fun _ _ => (fa_api_Merge_1 (o' := o18 + k15 * 2 + 1) rfl rfl)) ?_
        refine dw_tg 16 98303 rfl (by kernel_rfl) rfl rfl rfl (nt hb32) hS (fun _ _ => (r_mv rfl)) ?_
        refine dw_tg 17 229375 rfl (by kernel_rfl) rfl rfl rfl (nt hb32) hS (fun _ _ => (r_mv rfl)) ?_
        obtain ⟨hr33, h⟩ := h
        refine dw_tg 18 491519 rfl (by kernel_rfl) rfl rfl rfl (nt hb32) hS (fun _ _ => (sl_sl_api_Merge (s := a0) (l := 0) (h := k15) rfl rfl rfl (fun _ => rfl) (by intro h; cases h) hr33)) ?_
        obtain ⟨v34, hc35, h⟩ := h
        refine dw_lg 15 524287 rfl (by kernel_rfl) rfl rfl rfl (nt hb32) (ok_v (ld_string rfl hc35) ⟨hS, ?_⟩)
        refine dw_lg 19 1048575 rfl (by kernel_rfl) rfl rfl rfl (nt hb32) (ok_call c_ref18_side rfl (Calls.mono h (fun e36 w37 hq38 => ?_)))
        clear h
        obtain ⟨r40, he39, h⟩ := hq38
        refine ⟨_, he39, ?_⟩
        replace hx : Ext w37 w37 := Chg.refl _
        obtain ⟨hq41, h⟩ := h
        replace hS : w37.cell? ⟨b17, o18 + k15 * 2, none⟩ = some (.string v20) ∧ True := ⟨hq41, trivial⟩
        refine ⟨hS, ?_⟩
        refine dw_tg 20 2097151 rfl (by kernel_rfl) rfl rfl rfl (nt hb32) hS (fun _ _ => (r_not rfl)) ?_
        refine dw_t 21 4194303 rfl (by kernel_rfl) rfl hS (fun _ _ => (r_pf rfl (nt hb32) rfl)) ?_
        refine dw_d (by kernel_rfl) ?_
        clear hS
        exact ⟨_, !r40, (kp (kp (kp (kn rfl) rfl) rfl) rfl), h⟩
      · replace h := h.2 hb32
        refine dw_no 11 4095 rfl (by kernel_rfl) rfl rfl rfl (nf hb32) hS ?_
        refine dw_no 12 8191 rfl (by kernel_rfl) rfl rfl rfl (nf hb32) hS ?_
        refine dw_no 13 16383 rfl (by kernel_rfl) rfl rfl rfl (nf hb32) hS ?_
        refine dw_no 14 32767 rfl (by kernel_rfl) rfl rfl rfl (nf hb32) hS ?_
        refine dw_no 15 65535 rfl (by kernel_rfl) rfl rfl rfl (nf hb32) hS ?_
        refine dw_no 16 131071 rfl (by kernel_rfl) rfl rfl rfl (nf hb32) hS ?_
        refine dw_no 17 262143 rfl (by kernel_rfl) rfl rfl rfl (nf hb32) hS ?_
        refine dw_no 18 524287 rfl (by kernel_rfl) rfl rfl rfl (nf hb32) hS ?_
        refine dw_no 19 1048575 rfl (by kernel_rfl) rfl rfl rfl (nf hb32) hS ?_
        refine dw_no 20 2097151 rfl (by kernel_rfl) rfl rfl rfl (nf hb32) hS ?_
        refine dw_t 21 4194303 rfl (by kernel_rfl) rfl hS (fun _ _ => (r_pt rfl (nf hb32) rfl)) ?_
        refine dw_d (by kernel_rfl) ?_
        clear hS
        exact ⟨_, true, (kp (kp (kp (kn rfl) rfl) rfl) rfl), h⟩
    ·
      obtain ⟨g13, j9, rfl, hM14⟩ := hM14
      replace h := hK11 j9 w12 hM14
      have hx : Ext w12 w12 := Chg.refl _
      refine bcases (j9) (fun hb42 => ?_) (fun hb42 => ?_)
      · replace h := h.1 hb42
        refine cw_ct rfl hb42 ?_
        refine cw_seq ?_
        refine cw_region ?_
        refine sl_v rfl (r_mv rfl) ?_
        refine sl_v rfl (r_as rfl) ?_
        refine sl_v rfl (r_as rfl) ?_
        refine sl_nil ?_
        refine cw_ret ?_
        exact rs_2 (rt rfl) (rt rfl) ⟨l1, 7, rfl, h⟩
      · replace h := h.2 hb42
        refine cw_cf rfl hb42 ?_
        refine cw_skip ?_
        refine cw_seq ?_
        refine cw_seq ?_
        refine cw_still mo (by kernel_rfl) (fun w43 hd44 => ?_)
        replace hx := hx.tr (Ext.of_drew hd44)
        refine st_v rfl (r_mv rfl) ?_
        refine st_v rfl (r_mv rfl) ?_
        obtain ⟨k45, rfl, hk46, h⟩ := h
        obtain ⟨b47, o48, hb49, h⟩ := h
        refine st_v rfl (ia_sl_api_Merge (s := a0) (j := k45) (o' := o48 + k45 * 2) rfl rfl hk46 hb49 rfl) ?_
        refine st_v rfl (fa_api_Merge_0 (o' := o48 + k45 * 2) rfl rfl) ?_
        obtain ⟨v50, hc51, h⟩ := h
        refine st_v rfl (ld_string rfl (hx.cell hc51)) ?_
        refine st_v rfl (r_len_s rfl rfl Try.underlying9) ?_
        refine st_v rfl (r_mv rfl) ?_
        refine st_v rfl (r_mv rfl) ?_
        refine st_v rfl (ia_sl_api_Merge (s := a0) (j := k45) (o' := o48 + k45 * 2) rfl rfl hk46 hb49 rfl) ?_
        refine st_v rfl (fa_api_Merge_1 (o' := o48 + k45 * 2 + 1) rfl rfl) ?_
        obtain ⟨v52, hc53, h⟩ := h
        refine st_v rfl (ld_string rfl (hx.cell hc53)) ?_
        refine st_v rfl (r_len_s rfl rfl Try.underlying9) ?_
        obtain ⟨z54, hz54, h⟩ := h
        refine st_v rfl (r_add rfl rfl hz54) ?_
        refine st_v rfl (r_gtr rfl rfl) ?_
        refine st_nil ?_
        refine bcases (decide ((65536 : Int) < z54)) (fun hb55 => ?_) (fun hb55 => ?_)
        · replace h := h.1 (of_decide_eq_true hb55)
          refine cw_ct rfl hb55 ?_
          refine cw_seq ?_
          refine cw_region ?_
          refine sl_v rfl (r_mv rfl) ?_
          refine sl_v rfl (r_as rfl) ?_
          refine sl_v rfl (r_as rfl) ?_
          refine sl_nil ?_
          refine cw_ret ?_
          replace h := h _ hx
          replace hx : Ext w43 w43 := Chg.refl _
          exact rs_2 (rt rfl) (rt rfl) ⟨((k45 : Nat) : Int), 4, rfl, h⟩
        · replace h := h.2 (of_decide_eq_false hb55)
          refine cw_cf rfl hb55 ?_
          refine cw_skip ?_
          refine cw_seq ?_
          refine cw_region ?_
          refine sl_v rfl (r_as rfl) ?_
          refine sl_nil ?_
          refine cw_block ?_
          replace h := h _ hx
          replace hx : Ext w43 w43 := Chg.refl _
          obtain ⟨I59, μ60, hI61, h⟩ := h
          refine cw_loop (σ := Int) (fun s g => (upd (upd (upd (nm g []) 0 (a0.v)) 4 (.int .i64 ((k45 : Nat) : Int))) 5 (.int .i64 s))) (fun s w => I59 s w) (fun s w => μ60 s w) (0) _ (kp (kp (kp (kn rfl) rfl) rfl) rfl) hI61 ?_
          rintro l58 g63 w62 hi64
          replace h := h l58 w62 hi64
          have hx : Ext w62 w62 := Chg.refl _
          change CW _ PP _ _ _ (upd (upd (upd (nm g63 []) 0 (a0.v)) 4 (.int .i64 ((k45 : Nat) : Int))) 5 (.int .i64 l58)) _
          refine cw_seq ?_
          refine cw_seq ?_
          refine cw_region ?_
          refine sl_v rfl (r_mv rfl) ?_
          refine sl_v rfl (r_mv rfl) ?_
          refine sl_v rfl (r_lss rfl rfl) ?_
          refine sl_nil ?_
          refine bcases (decide (l58 < ((k45 : Nat) : Int))) (fun hb65 => ?_) (fun hb65 => ?_)
          · replace h := h.1 (of_decide_eq_true hb65)
            refine cw_ct rfl hb65 ?_
            refine cw_skip ?_
            refine cw_seq ?_
            refine cw_block ?_
            refine cw_seq ?_
            refine cw_still mo (by kernel_rfl) (fun w66 hd67 => ?_)
            replace hx := hx.tr (Ext.of_drew hd67)
            refine st_v rfl (r_mv rfl) ?_
            refine st_v rfl (r_mv rfl) ?_
            obtain ⟨k68, rfl, hk69, h⟩ := h
            obtain ⟨b70, o71, hb72, h⟩ := h
            refine st_v rfl (ia_sl_api_Merge (s := a0) (j := k68) (o' := o71 + k68 * 2) rfl rfl hk69 hb72 rfl) ?_
            refine st_v rfl (fa_api_Merge_0 (o' := o71 + k68 * 2) rfl rfl) ?_
            obtain ⟨v73, hc74, h⟩ := h
            refine st_v rfl (ld_string rfl (hx.cell hc74)) ?_
            refine st_v rfl (r_mv rfl) ?_
            refine st_v rfl (r_mv rfl) ?_
            refine st_v rfl (ia_sl_api_Merge (s := a0) (j := k68) (o' := o71 + k68 * 2) rfl rfl hk69 hb72 rfl) ?_
            refine st_v rfl (fa_api_Merge_1 (o' := o71 + k68 * 2 + 1) rfl rfl) ?_
            obtain ⟨v75, hc76, h⟩ := h
            refine st_v rfl (ld_string rfl (hx.cell hc76)) ?_
            obtain ⟨hs77, h⟩ := h
            refine st_v rfl (s_cat rfl rfl hs77) ?_
            refine st_v rfl (r_mv rfl) ?_
            refine st_v rfl (r_mv rfl) ?_
            obtain ⟨hk78, h⟩ := h
            refine st_v rfl (ia_sl_api_Merge (s := a0) (j := k45) (o' := o71 + k45 * 2) rfl rfl hk78 hb72 rfl) ?_
            refine st_v rfl (fa_api_Merge_0 (o' := o71 + k45 * 2) rfl rfl) ?_
            obtain ⟨v79, hc80, h⟩ := h
            refine st_v rfl (ld_string rfl (hx.cell hc80)) ?_
            refine st_v rfl (r_mv rfl) ?_
            refine st_v rfl (r_mv rfl) ?_
            refine st_v rfl (ia_sl_api_Merge (s := a0) (j := k45) (o' := o71 + k45 * 2) rfl rfl hk78 hb72 rfl) ?_
            refine st_v rfl (fa_api_Merge_1 (o' := o71 + k45 * 2 + 1) rfl rfl) ?_
            obtain ⟨v81, hc82, h⟩ := h
            refine st_v rfl (ld_string rfl (hx.cell hc82)) ?_
            obtain ⟨hs83, h⟩ := h
            refine st_v rfl (s_cat rfl rfl hs83) ?_
            refine st_v rfl (s_eql rfl rfl) ?_
            refine st_nil ?_
            refine bcases (decide ((v73 ++ v75) = (v79 ++ v81))) (fun hb84 => ?_) (fun hb84 => ?_)
            · replace h := h.1 (of_decide_eq_true hb84)
              refine cw_ct rfl hb84 ?_
              refine cw_seq ?_
              refine cw_region ?_
              refine sl_v rfl (r_mv rfl) ?_
              refine sl_v rfl (r_as rfl) ?_
              refine sl_v rfl (r_as rfl) ?_
              refine sl_nil ?_
              refine cw_ret ?_
              replace h := h _ hx
              replace hx : Ext w66 w66 := Chg.refl _
              exact rs_2 (rt rfl) (rt rfl) ⟨((k45 : Nat) : Int), 8, rfl, h⟩
            · replace h := h.2 (of_decide_eq_false hb84)
              refine cw_cf rfl hb84 ?_
              refine cw_skip ?_
              refine cw_region ?_
              refine sl_v rfl (r_mv rfl) ?_
              obtain ⟨z86, hz86, h⟩ := h
              refine sl_v rfl (r_add rfl rfl hz86) ?_
              refine sl_v rfl (r_as rfl) ?_
              refine sl_nil ?_
              replace h := h _ hx
              replace hx : Ext w66 w66 := Chg.refl _
              exact ⟨(z86), _, (kp (kp (kp (kn rfl) rfl) rfl) rfl), h.1, h.2⟩
          · replace h := h.2 (of_decide_eq_false hb65)
            refine cw_cf rfl hb65 ?_
            refine cw_exit ?_
            refine cw_region ?_
            refine sl_v rfl (r_mv rfl) ?_
            obtain ⟨z88, hz88, h⟩ := h
            refine sl_v rfl (r_add rfl rfl hz88) ?_
            refine sl_v rfl (r_as rfl) ?_
            refine sl_nil ?_
            exact ⟨(z88), _, (kp (kp (kn rfl) rfl) rfl), h.1, h.2⟩
  · replace h := h.2 (of_decide_eq_false hb8)
    refine cw_cf rfl hb8 ?_
    refine cw_exit ?_
    refine cw_seq ?_
    refine cw_region ?_
    refine sl_v rfl (r_as rfl) ?_
    refine sl_v rfl (r_as rfl) ?_
    refine sl_nil ?_
    refine cw_ret ?_
    exact rs_2 (rt rfl) (rt rfl) ⟨(-1), 0, rfl, h⟩

def VC_ref01_Texts (a0 : Sl) (a1 : Sl) (R : Bool → World → Prop) (w : World) : Prop :=
  (((a0.n : Nat) : Int) ≠ ((a1.n : Nat) : Int) → (R false w)) ∧ (¬ (((a0.n : Nat) : Int) ≠ ((a1.n : Nat) : Int)) → (∃ (I3 : Int → World → Prop) (μ4 : Int → World → Nat), I3 0 w ∧ ∀ (l2 : Int) (w6 : World), I3 l2 w6 → ((l2 < ((a0.n : Nat) : Int) → (∃ k12 : Nat, l2 = ((k12 : Nat) : Int) ∧ k12 < a0.n ∧ (∃ (b14 o15 : Nat), a0.b = some ⟨b14, o15, none⟩ ∧ (∃ v17 : ByteArray, w6.cell? ⟨b14, o15 + k12 * 1, none⟩ = some (.string v17) ∧ (k12 < a1.n ∧ (∃ (b20 o21 : Nat), a1.b = some ⟨b20, o21, none⟩ ∧ (∃ v23 : ByteArray, w6.cell? ⟨b20, o21 + k12 * 1, none⟩ = some (.string v23) ∧ ((v17 ≠ v23 → (∀ w10 : World, Ext w6 w10 → (R false w10))) ∧ (¬ (v17 ≠ v23) → (∃ z27 : Int, z27 = IntKind.wrap .i64 (((k12 : Nat) : Int) + 1) ∧ (∀ w10 : World, Ext w6 w10 → (I3 z27 w10 ∧ μ4 z27 w10 < μ4 l2 w6)))))))))))) ∧ (¬ (l2 < ((a0.n : Nat) : Int)) → (R true w6)))))
set_option maxRecDepth 100000 in
theorem vc_ref01_Texts {a0 : Sl} {a1 : Sl} {R : Bool → World → Prop} {w : World} (h : VC_ref01_Texts a0 a1 R w) : Calls PP n_ref01_Texts #[a0.v, a1.v] w fun e w' => ∃ r0 : Bool, e = .returned (.bool r0) ∧ R r0 w' := by
  refine Calls.mono (calls_of_cw (n := 26) (rs := #[.tmp 4]) (args := [a0.v, a1.v]) (R := fun v w' => ∃ r0 : Bool, v = .bool r0 ∧ R r0 w') Try.func19 rfl rfl (Nat.le_of_ble_eq_true rfl) rfl ?_) ?_
  case refine_2 => rintro e w' ⟨v, rfl, hr⟩; obtain ⟨r0, rfl, hr⟩ := hr; exact ⟨r0, rfl, hr⟩
  have hx : Ext w w := Chg.refl _
  unfold VC_ref01_Texts at h
  refine cw_seq ?_
  refine cw_region ?_
  refine sl_v rfl (r_as rfl) ?_
  refine sl_nil ?_
  refine cw_seq ?_
  refine cw_seq ?_
  refine cw_region ?_
  refine sl_v rfl (r_mv rfl) ?_
  refine sl_v rfl (r_len_l (s := a0) rfl rfl Try.underlying37) ?_
  refine sl_v rfl (r_mv rfl) ?_
  refine sl_v rfl (r_len_l (s := a1) rfl rfl Try.underlying37) ?_
  refine sl_v rfl (r_neq rfl rfl) ?_
  refine sl_nil ?_
  refine bcases (decide (((a0.n : Nat) : Int) ≠ ((a1.n : Nat) : Int))) (fun hb1 => ?_) (fun hb1 => ?_)
  · replace h := h.1 (of_decide_eq_true hb1)
    refine cw_ct rfl hb1 ?_
    refine cw_seq ?_
    refine cw_region ?_
    refine sl_v rfl (r_as rfl) ?_
    refine sl_nil ?_
    refine cw_ret ?_
    exact rs_1 (rt rfl) ⟨false, rfl, h⟩
  · replace h := h.2 (of_decide_eq_false hb1)
    refine cw_cf rfl hb1 ?_
    refine cw_skip ?_
    refine cw_seq ?_
    refine cw_seq ?_
    refine cw_region ?_
    refine sl_v rfl (r_as rfl) ?_
    refine sl_nil ?_
    refine cw_block ?_
    obtain ⟨I3, μ4, hI5, h⟩ := h
    refine cw_loop (σ := Int) (fun s g => (upd (upd (upd (nm g []) 0 (a0.v)) 1 (a1.v)) 5 (.int .i64 s))) (fun s w => I3 s w) (fun s w => μ4 s w) (0) _ (kp (kp (kp (kn rfl) rfl) rfl) rfl) hI5 ?_
    rintro l2 g7 w6 hi8
    replace h := h l2 w6 hi8
    have hx : Ext w6 w6 := Chg.refl _
    change CW _ PP _ _ _ (upd (upd (upd (nm g7 []) 0 (a0.v)) 1 (a1.v)) 5 (.int .i64 l2)) _
    refine cw_seq ?_
    refine cw_seq ?_
    refine cw_region ?_
    refine sl_v rfl (r_mv rfl) ?_
    refine sl_v rfl (r_mv rfl) ?_
    refine sl_v rfl (r_len_l (s := a0) rfl rfl Try.underlying37) ?_
    refine sl_v rfl (r_lss rfl rfl) ?_
    refine sl_nil ?_
    refine bcases (decide (l2 < ((a0.n : Nat) : Int))) (fun hb9 => ?_) (fun hb9 => ?_)
    · replace h := h.1 (of_decide_eq_true hb9)
      refine cw_ct rfl hb9 ?_
      refine cw_skip ?_
      refine cw_seq ?_
      refine cw_block ?_
      refine cw_seq ?_
      refine cw_still mo (by kernel_rfl) (fun w10 hd11 => ?_)
      replace hx := hx.tr (Ext.of_drew hd11)
      refine st_v rfl (r_mv rfl) ?_
      refine st_v rfl (r_mv rfl) ?_
      obtain ⟨k12, rfl, hk13, h⟩ := h
      obtain ⟨b14, o15, hb16, h⟩ := h
      refine st_v rfl (ia_sl_string (s := a0) (j := k12) (o' := o15 + k12 * 1) rfl rfl hk13 hb16 rfl) ?_
      obtain ⟨v17, hc18, h⟩ := h
      refine st_v rfl (ld_string rfl (hx.cell hc18)) ?_
      refine st_v rfl (r_mv rfl) ?_
      refine st_v rfl (r_mv rfl) ?_
      obtain ⟨hk19, h⟩ := h
      obtain ⟨b20, o21, hb22, h⟩ := h
      refine st_v rfl (ia_sl_string (s := a1) (j := k12) (o' := o21 + k12 * 1) rfl rfl hk19 hb22 rfl) ?_
      obtain ⟨v23, hc24, h⟩ := h
      refine st_v rfl (ld_string rfl (hx.cell hc24)) ?_
      refine st_v rfl (s_neq rfl rfl) ?_
      refine st_nil ?_
      refine bcases (decide (v17 ≠ v23)) (fun hb25 => ?_) (fun hb25 => ?_)
      · replace h := h.1 (of_decide_eq_true hb25)
        refine cw_ct rfl hb25 ?_
        refine cw_seq ?_
        refine cw_region ?_
        refine sl_v rfl (r_as rfl) ?_
        refine sl_nil ?_
        refine cw_ret ?_
        replace h := h _ hx
        replace hx : Ext w10 w10 := Chg.refl _
        exact rs_1 (rt rfl) ⟨false, rfl, h⟩
      · replace h := h.2 (of_decide_eq_false hb25)
        refine cw_cf rfl hb25 ?_
        refine cw_skip ?_
        refine cw_region ?_
        refine sl_v rfl (r_mv rfl) ?_
        obtain ⟨z27, hz27, h⟩ := h
        refine sl_v rfl (r_add rfl rfl hz27) ?_
        refine sl_v rfl (r_as rfl) ?_
        refine sl_nil ?_
        replace h := h _ hx
        replace hx : Ext w10 w10 := Chg.refl _
        exact ⟨(z27), _, (kp (kp (kp (kn rfl) rfl) rfl) rfl), h.1, h.2⟩
    · replace h := h.2 (of_decide_eq_false hb9)
      refine cw_cf rfl hb9 ?_
      refine cw_exit ?_
      refine cw_seq ?_
      refine cw_region ?_
      refine sl_v rfl (r_as rfl) ?_
      refine sl_nil ?_
      refine cw_ret ?_
      exact rs_1 (rt rfl) ⟨true, rfl, h⟩

def VC_law20_awake (R : Bool → World → Prop) (w : World) : Prop :=
  ∀ (b1 : Nat) (w2 : World), New w b1 (.cells #[.string (⟨#[97]⟩ : ByteArray), .string (⟨#[98]⟩ : ByteArray), .string (⟨#[97, 98]⟩ : ByteArray), .string (⟨#[97, 98]⟩ : ByteArray)] t_api_Merge (0, 0)) w2 → (Calls PP n_apply_New #[.slice (some ⟨b1, 0, none⟩) 2 2] w2 (fun e w5 => ∃ r8_0 : Option Addr, ∃ r8_1 : Int, e = .returned (.tuple #[.pointer r8_0, .int .i64 r8_1]) ∧ ((r8_1 = (0 : Int) → (Calls PP n_apply_Coder_Encode #[.pointer r8_0, .string (⟨#[97, 98, 97, 98]⟩ : ByteArray)] w5 (fun e w11 => ∃ r14 : Sl, e = .returned (r14.v) ∧ (∀ (b15 : Nat) (w16 : World), New w11 b15 (.cells #[.int .i64 257] t_int (0, 0)) w16 → (Calls PP n_ref01_Ints #[r14.v, .slice (some ⟨b15, 0, none⟩) 1 1] w16 (fun e w19 => ∃ r22 : Bool, e = .returned (.bool r22) ∧ ((r22 = true → (Calls PP n_apply_Coder_Encode #[.pointer r8_0, .string (⟨#[97, 98, 97]⟩ : ByteArray)] w19 (fun e w25 => ∃ r28 : Sl, e = .returned (r28.v) ∧ (∀ (b29 : Nat) (w30 : World), New w25 b29 (.cells #[.int .i64 256, .int .i64 97] t_int (0, 0)) w30 → (Calls PP n_ref01_Ints #[r28.v, .slice (some ⟨b29, 0, none⟩) 2 2] w30 (fun e w33 => ∃ r36 : Bool, e = .returned (.bool r36) ∧ (R r36 w33))))))) ∧ (r22 = false → (R false w19))))))))) ∧ (¬ (r8_1 = (0 : Int)) → (R false w5)))))
set_option maxRecDepth 100000 in
theorem vc_law20_awake {R : Bool → World → Prop} {w : World} (h : VC_law20_awake R w) : Calls PP n_law20_awake #[] w fun e w' => ∃ r0 : Bool, e = .returned (.bool r0) ∧ R r0 w' := by
  refine Calls.mono (calls_of_cw (n := 24) (rs := #[.tmp 0]) (args := []) (R := fun v w' => ∃ r0 : Bool, v = .bool r0 ∧ R r0 w') Try.func24 rfl rfl (Nat.le_of_ble_eq_true rfl) rfl ?_) ?_
  case refine_2 => rintro e w' ⟨v, rfl, hr⟩; obtain ⟨r0, rfl, hr⟩ := hr; exact ⟨r0, rfl, hr⟩
  have hx : Ext w w := Chg.refl _
  unfold VC_law20_awake at h
  refine cw_seq ?_
  refine cw_region ?_
  refine sl_v rfl (r_as rfl) ?_
  refine sl_nil ?_
  refine cw_seq ?_
  refine cw_region ?_
  refine sl_v rfl (bd_api_Merge (vs := [(0, .string (⟨#[97]⟩ : ByteArray)), (1, .string (⟨#[98]⟩ : ByteArray))]) (cs := #[.string (⟨#[97]⟩ : ByteArray), .string (⟨#[98]⟩ : ByteArray)]) rfl rfl) ?_
  refine sl_v rfl (bd_api_Merge (vs := [(0, .string (⟨#[97, 98]⟩ : ByteArray)), (1, .string (⟨#[97, 98]⟩ : ByteArray))]) (cs := #[.string (⟨#[97, 98]⟩ : ByteArray), .string (⟨#[97, 98]⟩ : ByteArray)]) rfl rfl) ?_
  refine sl_op rfl (bs_sl_api_Merge (len := 2) (vs := [(0, .agg #[.string (⟨#[97]⟩ : ByteArray), .string (⟨#[98]⟩ : ByteArray)]), (1, .agg #[.string (⟨#[97, 98]⟩ : ByteArray), .string (⟨#[97, 98]⟩ : ByteArray)])]) (cs := #[.string (⟨#[97]⟩ : ByteArray), .string (⟨#[98]⟩ : ByteArray), .string (⟨#[97, 98]⟩ : ByteArray), .string (⟨#[97, 98]⟩ : ByteArray)]) (by decide) rfl rfl (fun b1 w2 hN3 => ?_))
  replace h := h b1 w2 hN3
  replace hx : Ext w2 w2 := Chg.refl _
  refine sl_op rfl (ok_call c_apply_New rfl (Calls.mono h (fun e4 w5 hq6 => ?_)))
  clear h
  obtain ⟨r8_0, r8_1, he7, h⟩ := hq6
  refine ⟨_, he7, ?_⟩
  replace hx : Ext w5 w5 := Chg.refl _
  refine sl_v rfl (r_mv rfl) ?_
  refine sl_v rfl (r_ex rfl rfl) ?_
  refine sl_v rfl (r_ex rfl rfl) ?_
  refine sl_v rfl (r_as rfl) ?_
  refine sl_v rfl (r_as rfl) ?_
  refine sl_nil ?_
  refine cw_seq ?_
  refine cw_region ?_
  refine sl_v rfl (r_mv rfl) ?_
  refine sl_v rfl (r_eql rfl rfl) ?_
  refine sl_v rfl (r_mv rfl) ?_
  refine bcases (decide (r8_1 = (0 : Int))) (fun hb9 => ?_) (fun hb9 => ?_)
  · replace h := h.1 (of_decide_eq_true hb9)
    refine sl_vg rfl rfl rfl hb9 (r_mv rfl) ?_
    refine sl_g rfl rfl rfl hb9 (ok_call c_apply_Coder_Encode rfl (Calls.mono h (fun e10 w11 hq12 => ?_)))
    clear h
    obtain ⟨r14, he13, h⟩ := hq12
    refine ⟨_, he13, ?_⟩
    replace hx : Ext w11 w11 := Chg.refl _
    refine sl_g rfl rfl rfl hb9 (bs_sl_int (len := 1) (vs := [(0, .int .i64 257)]) (cs := #[.int .i64 257]) (by decide) rfl rfl (fun b15 w16 hN17 => ?_))
    replace h := h b15 w16 hN17
    replace hx : Ext w16 w16 := Chg.refl _
    refine sl_g rfl rfl rfl hb9 (ok_call c_ref01_Ints rfl (Calls.mono h (fun e18 w19 hq20 => ?_)))
    clear h
    obtain ⟨r22, he21, h⟩ := hq20
    refine ⟨_, he21, ?_⟩
    replace hx : Ext w19 w19 := Chg.refl _
    refine sl_v rfl (r_pt rfl hb9 rfl) ?_
    refine sl_v rfl (r_mv rfl) ?_
    refine bcases (r22) (fun hb23 => ?_) (fun hb23 => ?_)
    · replace h := h.1 hb23
      refine sl_vg rfl rfl rfl hb23 (r_mv rfl) ?_
      refine sl_g rfl rfl rfl hb23 (ok_call c_apply_Coder_Encode rfl (Calls.mono h (fun e24 w25 hq26 => ?_)))
      clear h
      obtain ⟨r28, he27, h⟩ := hq26
      refine ⟨_, he27, ?_⟩
      replace hx : Ext w25 w25 := Chg.refl _
      refine sl_g rfl rfl rfl hb23 (bs_sl_int (len := 2) (vs := [(0, .int .i64 256), (1, .int .i64 97)]) (cs := #[.int .i64 256, .int .i64 97]) (by decide) rfl rfl (fun b29 w30 hN31 => ?_))
      replace h := h b29 w30 hN31
      replace hx : Ext w30 w30 := Chg.refl _
      refine sl_g rfl rfl rfl hb23 (ok_call c_ref01_Ints rfl (Calls.mono h (fun e32 w33 hq34 => ?_)))
      clear h
      obtain ⟨r36, he35, h⟩ := hq34
      refine ⟨_, he35, ?_⟩
      replace hx : Ext w33 w33 := Chg.refl _
      refine sl_v rfl (r_pt rfl hb23 rfl) ?_
      refine sl_v rfl (r_as rfl) ?_
      refine sl_nil ?_
      refine cw_ret ?_
      exact rs_1 (rt rfl) ⟨r36, rfl, h⟩
    · replace h := h.2 hb23
      refine sl_no rfl rfl rfl hb23 ?_
      refine sl_no rfl rfl rfl hb23 ?_
      refine sl_no rfl rfl rfl hb23 ?_
      refine sl_no rfl rfl rfl hb23 ?_
      refine sl_v rfl (r_pf rfl hb23 rfl) ?_
      refine sl_v rfl (r_as rfl) ?_
      refine sl_nil ?_
      refine cw_ret ?_
      exact rs_1 (rt rfl) ⟨false, rfl, h⟩
  · replace h := h.2 (of_decide_eq_false hb9)
    refine sl_no rfl rfl rfl hb9 ?_
    refine sl_no rfl rfl rfl hb9 ?_
    refine sl_no rfl rfl rfl hb9 ?_
    refine sl_no rfl rfl rfl hb9 ?_
    refine sl_v rfl (r_pf rfl hb9 rfl) ?_
    refine sl_v rfl (r_mv rfl) ?_
    refine sl_no rfl rfl rfl rfl ?_
    refine sl_no rfl rfl rfl rfl ?_
    refine sl_no rfl rfl rfl rfl ?_
    refine sl_no rfl rfl rfl rfl ?_
    refine sl_v rfl (r_pf rfl rfl rfl) ?_
    refine sl_v rfl (r_as rfl) ?_
    refine sl_nil ?_
    refine cw_ret ?_
    exact rs_1 (rt rfl) ⟨false, rfl, h⟩

def VC_ref07_Great (a0 : Sl) (a1 : Int) (R : Bool → World → Prop) (w : World) : Prop :=
  ∃ (I2 : Int → World → Prop) (μ3 : Int → World → Nat), I2 0 w ∧ ∀ (l1 : Int) (w5 : World), I2 l1 w5 → ((l1 < ((a0.n : Nat) : Int) → (∃ k9 : Nat, l1 = ((k9 : Nat) : Int) ∧ k9 < a0.n ∧ (∃ (b11 o12 : Nat), a0.b = some ⟨b11, o12, none⟩ ∧ (∃ v14 : ByteArray, w5.cell? ⟨b11, o12 + k9 * 2, none⟩ = some (.string v14) ∧ (((100 : Int) < ((v14.size : Nat) : Int) → (R true w5)) ∧ (¬ ((100 : Int) < ((v14.size : Nat) : Int)) → (∃ z17 : Int, z17 = IntKind.wrap .i64 (((k9 : Nat) : Int) + 1) ∧ (I2 z17 w5 ∧ μ3 z17 w5 < μ3 l1 w5)))))))) ∧ (¬ (l1 < ((a0.n : Nat) : Int)) → (R (decide (a1 < ((a0.n : Nat) : Int))) w5)))
set_option maxRecDepth 100000 in
theorem vc_ref07_Great {a0 : Sl} {a1 : Int} {R : Bool → World → Prop} {w : World} (h : VC_ref07_Great a0 a1 R w) : Calls PP n_ref07_Great #[a0.v, .int .i64 a1] w fun e w' => ∃ r0 : Bool, e = .returned (.bool r0) ∧ R r0 w' := by
  refine Calls.mono (calls_of_cw (n := 23) (rs := #[.tmp 4]) (args := [a0.v, .int .i64 a1]) (R := fun v w' => ∃ r0 : Bool, v = .bool r0 ∧ R r0 w') Try.func25 rfl rfl (Nat.le_of_ble_eq_true rfl) rfl ?_) ?_
  case refine_2 => rintro e w' ⟨v, rfl, hr⟩; obtain ⟨r0, rfl, hr⟩ := hr; exact ⟨r0, rfl, hr⟩
  have hx : Ext w w := Chg.refl _
  unfold VC_ref07_Great at h
  refine cw_seq ?_
  refine cw_region ?_
  refine sl_v rfl (r_as rfl) ?_
  refine sl_nil ?_
  refine cw_seq ?_
  refine cw_seq ?_
  refine cw_region ?_
  refine sl_v rfl (r_as rfl) ?_
  refine sl_nil ?_
  refine cw_block ?_
  obtain ⟨I2, μ3, hI4, h⟩ := h
  refine cw_loop (σ := Int) (fun s g => (upd (upd (upd (nm g []) 0 (a0.v)) 1 (.int .i64 a1)) 5 (.int .i64 s))) (fun s w => I2 s w) (fun s w => μ3 s w) (0) _ (kp (kp (kp (kn rfl) rfl) rfl) rfl) hI4 ?_
  rintro l1 g6 w5 hi7
  replace h := h l1 w5 hi7
  have hx : Ext w5 w5 := Chg.refl _
  change CW _ PP _ _ _ (upd (upd (upd (nm g6 []) 0 (a0.v)) 1 (.int .i64 a1)) 5 (.int .i64 l1)) _
  refine cw_seq ?_
  refine cw_seq ?_
  refine cw_region ?_
  refine sl_v rfl (r_mv rfl) ?_
  refine sl_v rfl (r_mv rfl) ?_
  refine sl_v rfl (r_len_l (s := a0) rfl rfl Try.underlying46) ?_
  refine sl_v rfl (r_lss rfl rfl) ?_
  refine sl_nil ?_
  refine bcases (decide (l1 < ((a0.n : Nat) : Int))) (fun hb8 => ?_) (fun hb8 => ?_)
  · replace h := h.1 (of_decide_eq_true hb8)
    refine cw_ct rfl hb8 ?_
    refine cw_skip ?_
    refine cw_seq ?_
    refine cw_block ?_
    refine cw_seq ?_
    refine cw_region ?_
    refine sl_v rfl (r_mv rfl) ?_
    refine sl_v rfl (r_mv rfl) ?_
    obtain ⟨k9, rfl, hk10, h⟩ := h
    obtain ⟨b11, o12, hb13, h⟩ := h
    refine sl_v rfl (ia_sl_api_Word (s := a0) (j := k9) (o' := o12 + k9 * 2) rfl rfl hk10 hb13 rfl) ?_
    refine sl_v rfl (fa_api_Word_0 (o' := o12 + k9 * 2) rfl rfl) ?_
    obtain ⟨v14, hc15, h⟩ := h
    refine sl_v rfl (ld_string rfl hc15) ?_
    refine sl_v rfl (r_len_s rfl rfl Try.underlying9) ?_
    refine sl_v rfl (r_gtr rfl rfl) ?_
    refine sl_nil ?_
    refine bcases (decide ((100 : Int) < ((v14.size : Nat) : Int))) (fun hb16 => ?_) (fun hb16 => ?_)
    · replace h := h.1 (of_decide_eq_true hb16)
      refine cw_ct rfl hb16 ?_
      refine cw_seq ?_
      refine cw_region ?_
      refine sl_v rfl (r_as rfl) ?_
      refine sl_nil ?_
      refine cw_ret ?_
      exact rs_1 (rt rfl) ⟨true, rfl, h⟩
    · replace h := h.2 (of_decide_eq_false hb16)
      refine cw_cf rfl hb16 ?_
      refine cw_skip ?_
      refine cw_region ?_
      refine sl_v rfl (r_mv rfl) ?_
      obtain ⟨z17, hz17, h⟩ := h
      refine sl_v rfl (r_add rfl rfl hz17) ?_
      refine sl_v rfl (r_as rfl) ?_
      refine sl_nil ?_
      exact ⟨(z17), _, (kp (kp (kp (kn rfl) rfl) rfl) rfl), h.1, h.2⟩
  · replace h := h.2 (of_decide_eq_false hb8)
    refine cw_cf rfl hb8 ?_
    refine cw_exit ?_
    refine cw_seq ?_
    refine cw_region ?_
    refine sl_v rfl (r_mv rfl) ?_
    refine sl_v rfl (r_len_l (s := a0) rfl rfl Try.underlying46) ?_
    refine sl_v rfl (r_mv rfl) ?_
    refine sl_v rfl (r_gtr rfl rfl) ?_
    refine sl_v rfl (r_as rfl) ?_
    refine sl_nil ?_
    refine cw_ret ?_
    exact rs_1 (rt rfl) ⟨decide (a1 < ((a0.n : Nat) : Int)), rfl, h⟩

def VC_ref08_Positions (a0 : Sl) (R : Int → World → Prop) (w : World) : Prop :=
  ∃ (I3 : Int → Int → World → Prop) (μ4 : Int → Int → World → Nat), I3 0 0 w ∧ ∀ (l1 : Int) (l2 : Int) (w6 : World), I3 l1 l2 w6 → ((l2 < ((a0.n : Nat) : Int) → (∃ k10 : Nat, l2 = ((k10 : Nat) : Int) ∧ k10 < a0.n ∧ (∃ (b12 o13 : Nat), a0.b = some ⟨b12, o13, none⟩ ∧ (∃ v15 : ByteArray, w6.cell? ⟨b12, o13 + k10 * 2, none⟩ = some (.string v15) ∧ (∃ z17 : Int, z17 = IntKind.wrap .i64 (l1 + ((v15.size : Nat) : Int)) ∧ (∃ z18 : Int, z18 = IntKind.wrap .i64 (((k10 : Nat) : Int) + 1) ∧ (I3 z17 z18 w6 ∧ μ4 z17 z18 w6 < μ4 l1 l2 w6))))))) ∧ (¬ (l2 < ((a0.n : Nat) : Int)) → (R l1 w6)))
set_option maxRecDepth 100000 in
theorem vc_ref08_Positions {a0 : Sl} {R : Int → World → Prop} {w : World} (h : VC_ref08_Positions a0 R w) : Calls PP n_ref08_Positions #[a0.v] w fun e w' => ∃ r0 : Int, e = .returned (.int .i64 r0) ∧ R r0 w' := by
  refine Calls.mono (calls_of_cw (n := 20) (rs := #[.tmp 2]) (args := [a0.v]) (R := fun v w' => ∃ r0 : Int, v = .int .i64 r0 ∧ R r0 w') Try.func26 rfl rfl (Nat.le_of_ble_eq_true rfl) rfl ?_) ?_
  case refine_2 => rintro e w' ⟨v, rfl, hr⟩; obtain ⟨r0, rfl, hr⟩ := hr; exact ⟨r0, rfl, hr⟩
  have hx : Ext w w := Chg.refl _
  unfold VC_ref08_Positions at h
  refine cw_seq ?_
  refine cw_region ?_
  refine sl_v rfl (r_as rfl) ?_
  refine sl_nil ?_
  refine cw_seq ?_
  refine cw_region ?_
  refine sl_v rfl (r_as rfl) ?_
  refine sl_nil ?_
  refine cw_seq ?_
  refine cw_seq ?_
  refine cw_region ?_
  refine sl_v rfl (r_as rfl) ?_
  refine sl_nil ?_
  refine cw_block ?_
  obtain ⟨I3, μ4, hI5, h⟩ := h
  refine cw_loop (σ := Int × Int) (fun s g => (upd (upd (upd (nm g []) 0 (a0.v)) 3 (.int .i64 s.1)) 4 (.int .i64 s.2))) (fun s w => I3 s.1 s.2 w) (fun s w => μ4 s.1 s.2 w) (0, 0) _ (kp (kp (kp (kn rfl) rfl) rfl) rfl) hI5 ?_
  rintro ⟨l1, l2⟩ g7 w6 hi8
  replace h := h l1 l2 w6 hi8
  have hx : Ext w6 w6 := Chg.refl _
  change CW _ PP _ _ _ (upd (upd (upd (nm g7 []) 0 (a0.v)) 3 (.int .i64 l1)) 4 (.int .i64 l2)) _
  refine cw_seq ?_
  refine cw_seq ?_
  refine cw_region ?_
  refine sl_v rfl (r_mv rfl) ?_
  refine sl_v rfl (r_mv rfl) ?_
  refine sl_v rfl (r_len_l (s := a0) rfl rfl Try.underlying46) ?_
  refine sl_v rfl (r_lss rfl rfl) ?_
  refine sl_nil ?_
  refine bcases (decide (l2 < ((a0.n : Nat) : Int))) (fun hb9 => ?_) (fun hb9 => ?_)
  · replace h := h.1 (of_decide_eq_true hb9)
    refine cw_ct rfl hb9 ?_
    refine cw_skip ?_
    refine cw_seq ?_
    refine cw_block ?_
    refine cw_region ?_
    refine sl_v rfl (r_mv rfl) ?_
    refine sl_v rfl (r_mv rfl) ?_
    refine sl_v rfl (r_mv rfl) ?_
    obtain ⟨k10, rfl, hk11, h⟩ := h
    obtain ⟨b12, o13, hb14, h⟩ := h
    refine sl_v rfl (ia_sl_api_Word (s := a0) (j := k10) (o' := o13 + k10 * 2) rfl rfl hk11 hb14 rfl) ?_
    refine sl_v rfl (fa_api_Word_0 (o' := o13 + k10 * 2) rfl rfl) ?_
    obtain ⟨v15, hc16, h⟩ := h
    refine sl_v rfl (ld_string rfl hc16) ?_
    refine sl_v rfl (r_len_s rfl rfl Try.underlying9) ?_
    obtain ⟨z17, hz17, h⟩ := h
    refine sl_v rfl (r_add rfl rfl hz17) ?_
    refine sl_v rfl (r_as rfl) ?_
    refine sl_nil ?_
    refine cw_region ?_
    refine sl_v rfl (r_mv rfl) ?_
    obtain ⟨z18, hz18, h⟩ := h
    refine sl_v rfl (r_add rfl rfl hz18) ?_
    refine sl_v rfl (r_as rfl) ?_
    refine sl_nil ?_
    exact ⟨(z17, z18), _, (kp (kp (kp (kn rfl) rfl) rfl) rfl), h.1, h.2⟩
  · replace h := h.2 (of_decide_eq_false hb9)
    refine cw_cf rfl hb9 ?_
    refine cw_exit ?_
    refine cw_seq ?_
    refine cw_region ?_
    refine sl_v rfl (r_mv rfl) ?_
    refine sl_v rfl (r_as rfl) ?_
    refine sl_nil ?_
    refine cw_ret ?_
    exact rs_1 (rt rfl) ⟨l1, rfl, h⟩

def VC_ref16_Learn (a0 : Sl) (a1 : Int) (a2 : Int) (R : Sl → World → Prop) (w : World) : Prop :=
  Calls PP n_ref08_Check #[a0.v] w (fun e w2 => ∃ r5_0 : Int, ∃ r5_1 : Int, e = .returned (.tuple #[.int .i64 r5_0, .int .i64 r5_1]) ∧ (∃ K7 : Bool → World → Prop, (∀ (j6 : Bool) (w9 : World), K7 j6 w9 → ((j6 = true → (R (⟨none, 0, 0⟩ : Sl) w9)) ∧ (j6 = false → (∃ (I17 : Sl → Sl → Int → World → Prop) (μ18 : Sl → Sl → Int → World → Nat), I17 (⟨none, 0, 0⟩ : Sl) (⟨none, 0, 0⟩ : Sl) 0 w9 ∧ ∀ (l14 : Sl) (l15 : Sl) (l16 : Int) (w20 : World), I17 l14 l15 l16 w20 → ((l16 < ((a0.n : Nat) : Int) → (∃ k24 : Nat, l16 = ((k24 : Nat) : Int) ∧ k24 < a0.n ∧ (∃ (b26 o27 : Nat), a0.b = some ⟨b26, o27, none⟩ ∧ (∃ v29 : ByteArray, w20.cell? ⟨b26, o27 + k24 * 2, none⟩ = some (.string v29) ∧ (Calls PP n_ref16_Texts #[.string v29] w20 (fun e w32 => ∃ r35 : Sl, e = .returned (r35.v) ∧ (∃ xs44 : List Value, Own w32 t_sl_string 1 l14 xs44 ∧ ((l14.n + 1) * 24 ≤ 140737488355328 ∧ l14.n + 1 ≤ maxLen) ∧ (∀ (s41 : Sl) (w40 : World), App w32 t_sl_string 1 l14 xs44 1 [r35.v] s41 w40 → (∃ v47 : Int, w40.cell? ⟨b26, o27 + k24 * 2 + 1, none⟩ = some (.int .i64 v47) ∧ (∃ xs57 : List Value, Own w40 t_int 1 l15 xs57 ∧ ((l15.n + 1) * 8 ≤ 140737488355328 ∧ l15.n + 1 ≤ maxLen) ∧ (∀ (s54 : Sl) (w53 : World), App w40 t_int 1 l15 xs57 1 [.int .i64 v47] s54 w53 → (∃ z60 : Int, z60 = IntKind.wrap .i64 (((k24 : Nat) : Int) + 1) ∧ (I17 s41 s54 z60 w53 ∧ μ18 s41 s54 z60 w53 < μ18 l14 l15 l16 w20))))))))))))) ∧ (¬ (l16 < ((a0.n : Nat) : Int)) → (∃ (I63 : Sl → Sl → World → Prop) (μ64 : Sl → Sl → World → Nat), I63 (⟨none, 0, 0⟩ : Sl) l14 w20 ∧ ∀ (l61 : Sl) (l62 : Sl) (w66 : World), I63 l61 l62 w66 → ((((l61.n : Nat) : Int) < a1 → (Calls PP n_ref16_Best #[l62.v, l15.v] w66 (fun e w71 => ∃ r74_0_0 : ByteArray, ∃ r74_0_1 : ByteArray, ∃ r74_1 : Int, e = .returned (.tuple #[.agg #[.string r74_0_0, .string r74_0_1], .int .i64 r74_1]) ∧ (∀ (b75 : Nat) (w76 : World), Priv w71 b75 w76 → (∀ w79 : World, Chg (fun b => b = b75) w76 w79 → ((r74_1 < a2 → (R l61 w79)) ∧ (¬ (r74_1 < a2) → (∃ xs91 : List Value, Own w79 t_api_Merge 2 l61 xs91 ∧ ((l61.n + 1) * 32 ≤ 140737488355328 ∧ l61.n + 1 ≤ maxLen) ∧ (l61.blk ≠ some b75 ∧ (∀ (s88 : Sl) (w87 : World), App w79 t_api_Merge 2 l61 xs91 1 [.string r74_0_0, .string r74_0_1] s88 w87 → (∃ (I97 : Sl → Int → World → Prop) (μ98 : Sl → Int → World → Nat), I97 (⟨none, 0, 0⟩ : Sl) 0 w87 ∧ ∀ (l95 : Sl) (l96 : Int) (w100 : World), I97 l95 l96 w100 → ((l96 < ((l62.n : Nat) : Int) → (∃ k105 : Nat, l96 = ((k105 : Nat) : Int) ∧ k105 < l62.n ∧ (∃ (b107 o108 : Nat), l62.b = some ⟨b107, o108, none⟩ ∧ (∃ v110 : Sl, w100.cell? ⟨b107, o108 + k105 * 1, none⟩ = some (v110.v) ∧ (∀ w112 : World, Ext w100 w112 → (Calls PP n_ref16_Join #[v110.v, .agg #[.string r74_0_0, .string r74_0_1]] w112 (fun e w116 => ∃ r119 : Sl, e = .returned (r119.v) ∧ w116.heap[b75]? = w112.heap[b75]? ∧ (w116.cell? ⟨b107, o108 + k105 * 1, none⟩ = some (v110.v) ∧ (∃ xs131 : List Value, Own w116 t_sl_string 1 l95 xs131 ∧ ((l95.n + 1) * 24 ≤ 140737488355328 ∧ l95.n + 1 ≤ maxLen) ∧ (l95.blk ≠ some b75 ∧ (∀ (s128 : Sl) (w127 : World), App w116 t_sl_string 1 l95 xs131 1 [r119.v] s128 w127 → (w127.cell? ⟨b107, o108 + k105 * 1, none⟩ = some (v110.v) ∧ (∃ z136 : Int, z136 = IntKind.wrap .i64 (((k105 : Nat) : Int) + 1) ∧ (I97 s128 z136 w127 ∧ μ98 s128 z136 w127 < μ98 l95 l96 w100)))))))))))))) ∧ (¬ (l96 < ((l62.n : Nat) : Int)) → (I63 s88 l95 w100 ∧ μ64 s88 l95 w100 < μ64 l61 l62 w66)))))))))))))) ∧ (¬ (((l61.n : Nat) : Int) < a1) → (R l61 w66)))))))))) ∧ ((r5_1 ≠ (0 : Int) → (K7 true w2)) ∧ (¬ (r5_1 ≠ (0 : Int)) → (K7 (decide (a2 < (1 : Int))) w2)))))
set_option maxRecDepth 100000 in
theorem vc_ref16_Learn {a0 : Sl} {a1 : Int} {a2 : Int} {R : Sl → World → Prop} {w : World} (h : VC_ref16_Learn a0 a1 a2 R w) : Calls PP n_ref16_Learn #[a0.v, .int .i64 a1, .int .i64 a2] w fun e w' => ∃ r0 : Sl, e = .returned (r0.v) ∧ R r0 w' := by
  refine Calls.mono (calls_of_cw (n := 87) (rs := #[.tmp 6]) (args := [a0.v, .int .i64 a1, .int .i64 a2]) (R := fun v w' => ∃ r0 : Sl, v = r0.v ∧ R r0 w') Try.func27 rfl rfl (Nat.le_of_ble_eq_true rfl) rfl ?_) ?_
  case refine_2 => rintro e w' ⟨v, rfl, hr⟩; obtain ⟨r0, rfl, hr⟩ := hr; exact ⟨r0, rfl, hr⟩
  have hx : Ext w w := Chg.refl _
  unfold VC_ref16_Learn at h
  refine cw_seq ?_
  refine cw_region ?_
  refine sl_v rfl (r_as rfl) ?_
  refine sl_nil ?_
  refine cw_seq ?_
  refine cw_region ?_
  refine sl_v rfl (r_as rfl) ?_
  refine sl_nil ?_
  refine cw_seq ?_
  refine cw_region ?_
  refine sl_v rfl (r_mv rfl) ?_
  refine sl_op rfl (ok_call c_ref08_Check rfl (Calls.mono h (fun e1 w2 hq3 => ?_)))
  clear h
  obtain ⟨r5_0, r5_1, he4, h⟩ := hq3
  refine ⟨_, he4, ?_⟩
  replace hx : Ext w2 w2 := Chg.refl _
  refine sl_v rfl (r_mv rfl) ?_
  refine sl_v rfl (r_ex rfl rfl) ?_
  refine sl_v rfl (r_ex rfl rfl) ?_
  refine sl_v rfl (r_as rfl) ?_
  refine sl_v rfl (r_as rfl) ?_
  refine sl_nil ?_
  refine cw_seq ?_
  obtain ⟨K7, hK8, h⟩ := h
  refine cw_mid (fun f w => ∃ (g : Env) (j6 : Bool), f = (upd (upd (upd (upd (upd (nm g []) 0 (a0.v)) 1 (.int .i64 a1)) 2 (.int .i64 a2)) 7 (.slice none 0 0)) 27 (.bool j6)) ∧ K7 j6 w) ?_ (fun _ w9 hM11 => ?_)
  ·
    refine cw_region ?_
    refine sl_v rfl (r_mv rfl) ?_
    refine sl_v rfl (r_neq rfl rfl) ?_
    refine sl_v rfl (r_mv rfl) ?_
    refine bcases (decide (r5_1 ≠ (0 : Int))) (fun hb12 => ?_) (fun hb12 => ?_)
    · replace h := h.1 (of_decide_eq_true hb12)
      refine sl_no rfl rfl rfl hb12 ?_
      refine sl_no rfl rfl rfl hb12 ?_
      refine sl_v rfl (r_pt rfl hb12 rfl) ?_
      refine sl_nil ?_
      exact ⟨_, true, (kp (kp (kp (kp (kp (kn rfl) rfl) rfl) rfl) rfl) rfl), h⟩
    · replace h := h.2 (of_decide_eq_false hb12)
      refine sl_vg rfl rfl rfl hb12 (r_mv rfl) ?_
      refine sl_vg rfl rfl rfl hb12 (r_lss rfl rfl) ?_
      refine sl_v rfl (r_pf rfl hb12 rfl) ?_
      refine sl_nil ?_
      exact ⟨_, decide (a2 < (1 : Int)), (kp (kp (kp (kp (kp (kn rfl) rfl) rfl) rfl) rfl) rfl), h⟩
  ·
    obtain ⟨g10, j6, rfl, hM11⟩ := hM11
    replace h := hK8 j6 w9 hM11
    have hx : Ext w9 w9 := Chg.refl _
    refine bcases (j6) (fun hb13 => ?_) (fun hb13 => ?_)
    · replace h := h.1 hb13
      refine cw_ct rfl hb13 ?_
      refine cw_seq ?_
      refine cw_region ?_
      refine sl_v rfl (r_mv rfl) ?_
      refine sl_v rfl (r_as rfl) ?_
      refine sl_nil ?_
      refine cw_ret ?_
      exact rs_1 (rt rfl) ⟨(⟨none, 0, 0⟩ : Sl), rfl, h⟩
    · replace h := h.2 hb13
      refine cw_cf rfl hb13 ?_
      refine cw_skip ?_
      refine cw_seq ?_
      refine cw_region ?_
      refine sl_v rfl (r_as rfl) ?_
      refine sl_nil ?_
      refine cw_seq ?_
      refine cw_region ?_
      refine sl_v rfl (r_as rfl) ?_
      refine sl_nil ?_
      refine cw_seq ?_
      refine cw_seq ?_
      refine cw_region ?_
      refine sl_v rfl (r_as rfl) ?_
      refine sl_nil ?_
      refine cw_block ?_
      obtain ⟨I17, μ18, hI19, h⟩ := h
      refine cw_loop (σ := Sl × Sl × Int) (fun s g => (upd (upd (upd (upd (upd (upd (upd (nm g []) 0 (a0.v)) 1 (.int .i64 a1)) 2 (.int .i64 a2)) 7 (.slice none 0 0)) 10 (s.1.v)) 11 (s.2.1.v)) 12 (.int .i64 s.2.2))) (fun s w => I17 s.1 s.2.1 s.2.2 w) (fun s w => μ18 s.1 s.2.1 s.2.2 w) ((⟨none, 0, 0⟩ : Sl), (⟨none, 0, 0⟩ : Sl), 0) _ (kp (kp (kp (kp (kp (kp (kp (kn rfl) rfl) rfl) rfl) rfl) rfl) rfl) rfl) hI19 ?_
      rintro ⟨l14, l15, l16⟩ g21 w20 hi22
      replace h := h l14 l15 l16 w20 hi22
      have hx : Ext w20 w20 := Chg.refl _
      change CW _ PP _ _ _ (upd (upd (upd (upd (upd (upd (upd (nm g21 []) 0 (a0.v)) 1 (.int .i64 a1)) 2 (.int .i64 a2)) 7 (.slice none 0 0)) 10 (l14.v)) 11 (l15.v)) 12 (.int .i64 l16)) _
      refine cw_seq ?_
      refine cw_seq ?_
      refine cw_region ?_
      refine sl_v rfl (r_mv rfl) ?_
      refine sl_v rfl (r_mv rfl) ?_
      refine sl_v rfl (r_len_l (s := a0) rfl rfl Try.underlying46) ?_
      refine sl_v rfl (r_lss rfl rfl) ?_
      refine sl_nil ?_
      refine bcases (decide (l16 < ((a0.n : Nat) : Int))) (fun hb23 => ?_) (fun hb23 => ?_)
      · replace h := h.1 (of_decide_eq_true hb23)
        refine cw_ct rfl hb23 ?_
        refine cw_skip ?_
        refine cw_seq ?_
        refine cw_block ?_
        refine cw_seq ?_
        refine cw_region ?_
        refine sl_v rfl (r_mv rfl) ?_
        refine sl_v rfl (r_mv rfl) ?_
        refine sl_v rfl (r_mv rfl) ?_
        obtain ⟨k24, rfl, hk25, h⟩ := h
        obtain ⟨b26, o27, hb28, h⟩ := h
        refine sl_v rfl (ia_sl_api_Word (s := a0) (j := k24) (o' := o27 + k24 * 2) rfl rfl hk25 hb28 rfl) ?_
        refine sl_v rfl (fa_api_Word_0 (o' := o27 + k24 * 2) rfl rfl) ?_
        obtain ⟨v29, hc30, h⟩ := h
        refine sl_v rfl (ld_string rfl hc30) ?_
        refine sl_op rfl (ok_call c_ref16_Texts rfl (Calls.mono h (fun e31 w32 hq33 => ?_)))
        clear h
        obtain ⟨r35, he34, h⟩ := hq33
        refine ⟨_, he34, ?_⟩
        replace hx : Ext w32 w32 := Chg.refl _
        refine sl_op rfl (bs_sl_sl_string (len := 1) (vs := [(0, r35.v)]) (cs := #[r35.v]) (by decide) rfl rfl (fun b36 w37 hN38 => ?_))
        have hB39 := hN38.here
        replace hx := hx.tr hN38.ext
        obtain ⟨xs44, ho45, hb46, h⟩ := h
        refine sl_op rfl (ap_sl_sl_string (s := l14) (xs := xs44) (m := 1) (news := [r35.v]) rfl rfl hx ho45 (.c (cell_blk hB39 rfl) .n) rfl rfl hb46 (fun s41 w40 ha42 hc43 => ?_))
        replace h := h s41 w40 ha42
        replace hx : Ext w40 w40 := Chg.refl _
        refine sl_v rfl (r_as rfl) ?_
        refine sl_nil ?_
        refine cw_region ?_
        refine sl_v rfl (r_mv rfl) ?_
        refine sl_v rfl (r_mv rfl) ?_
        refine sl_v rfl (r_mv rfl) ?_
        refine sl_v rfl (ia_sl_api_Word (s := a0) (j := k24) (o' := o27 + k24 * 2) rfl rfl hk25 hb28 rfl) ?_
        refine sl_v rfl (fa_api_Word_1 (o' := o27 + k24 * 2 + 1) rfl rfl) ?_
        obtain ⟨v47, hc48, h⟩ := h
        refine sl_v rfl (ld_int rfl hc48) ?_
        refine sl_op rfl (bs_sl_int (len := 1) (vs := [(0, .int .i64 v47)]) (cs := #[.int .i64 v47]) (by decide) rfl rfl (fun b49 w50 hN51 => ?_))
        have hB52 := hN51.here
        replace hx := hx.tr hN51.ext
        obtain ⟨xs57, ho58, hb59, h⟩ := h
        refine sl_op rfl (ap_sl_int (s := l15) (xs := xs57) (m := 1) (news := [.int .i64 v47]) rfl rfl hx ho58 (.c (cell_blk hB52 rfl) .n) rfl rfl hb59 (fun s54 w53 ha55 hc56 => ?_))
        replace h := h s54 w53 ha55
        replace hx : Ext w53 w53 := Chg.refl _
        refine sl_v rfl (r_as rfl) ?_
        refine sl_nil ?_
        refine cw_region ?_
        refine sl_v rfl (r_mv rfl) ?_
        obtain ⟨z60, hz60, h⟩ := h
        refine sl_v rfl (r_add rfl rfl hz60) ?_
        refine sl_v rfl (r_as rfl) ?_
        refine sl_nil ?_
        exact ⟨(s41, s54, z60), _, (kp (kp (kp (kp (kp (kp (kp (kn rfl) rfl) rfl) rfl) rfl) rfl) rfl) rfl), h.1, h.2⟩
      · replace h := h.2 (of_decide_eq_false hb23)
        refine cw_cf rfl hb23 ?_
        refine cw_exit ?_
        refine cw_seq ?_
        refine cw_block ?_
        obtain ⟨I63, μ64, hI65, h⟩ := h
        refine cw_loop (σ := Sl × Sl) (fun s g => (upd (upd (upd (upd (upd (nm g []) 1 (.int .i64 a1)) 2 (.int .i64 a2)) 7 (s.1.v)) 10 (s.2.v)) 11 (l15.v))) (fun s w => I63 s.1 s.2 w) (fun s w => μ64 s.1 s.2 w) ((⟨none, 0, 0⟩ : Sl), l14) _ (kp (kp (kp (kp (kp (kn rfl) rfl) rfl) rfl) rfl) rfl) hI65 ?_
        rintro ⟨l61, l62⟩ g67 w66 hi68
        replace h := h l61 l62 w66 hi68
        have hx : Ext w66 w66 := Chg.refl _
        change CW _ PP _ _ _ (upd (upd (upd (upd (upd (nm g67 []) 1 (.int .i64 a1)) 2 (.int .i64 a2)) 7 (l61.v)) 10 (l62.v)) 11 (l15.v)) _
        refine cw_seq ?_
        refine cw_seq ?_
        refine cw_region ?_
        refine sl_v rfl (r_mv rfl) ?_
        refine sl_v rfl (r_len_l (s := l61) rfl rfl Try.underlying22) ?_
        refine sl_v rfl (r_mv rfl) ?_
        refine sl_v rfl (r_lss rfl rfl) ?_
        refine sl_nil ?_
        refine bcases (decide (((l61.n : Nat) : Int) < a1)) (fun hb69 => ?_) (fun hb69 => ?_)
        · replace h := h.1 (of_decide_eq_true hb69)
          refine cw_ct rfl hb69 ?_
          refine cw_skip ?_
          refine cw_block ?_
          refine cw_seq ?_
          refine cw_region ?_
          refine sl_v rfl (r_mv rfl) ?_
          refine sl_v rfl (r_mv rfl) ?_
          refine sl_op rfl (ok_call c_ref16_Best rfl (Calls.mono h (fun e70 w71 hq72 => ?_)))
          clear h
          obtain ⟨r74_0_0, r74_0_1, r74_1, he73, h⟩ := hq72
          refine ⟨_, he73, ?_⟩
          replace hx : Ext w71 w71 := Chg.refl _
          refine sl_v rfl (r_mv rfl) ?_
          refine sl_v rfl (r_ex rfl rfl) ?_
          refine sl_v rfl (r_ex rfl rfl) ?_
          refine sl_op rfl (al_api_Merge rfl (fun b75 w76 hN77 => ?_))
          have hB78 := hN77.here
          replace h := h b75 w76 ⟨hx.tr hN77.ext, Nat.le_trans hx.size hN77.fresh, lt_of_blk hN77.here⟩
          replace hx : Ext w76 w76 := Chg.refl _
          refine sl_op rfl (st_api_Merge (vs := [.string r74_0_0, .string r74_0_1]) rfl rfl rfl rfl rfl ⟨_, _, hB78, Nat.le_of_ble_eq_true rfl⟩ (fun w79 hw80 => ?_))
          have hc_ := sto_chg hw80
          replace hB78 : w79.heap[b75]? = some (.cells #[.string r74_0_0, .string r74_0_1] t_api_Merge (0, 0)) := sto_blk hw80 hB78
          replace h := h w79 (Chg.pre hx hc_)
          replace hx : Ext w79 w79 := Chg.refl _
          clear hc_
          refine sl_v rfl (r_as rfl) ?_
          refine sl_nil ?_
          refine cw_seq ?_
          refine cw_seq ?_
          refine cw_region ?_
          refine sl_v rfl (r_mv rfl) ?_
          refine sl_v rfl (r_mv rfl) ?_
          refine sl_v rfl (r_lss rfl rfl) ?_
          refine sl_nil ?_
          refine bcases (decide (r74_1 < a2)) (fun hb81 => ?_) (fun hb81 => ?_)
          · replace h := h.1 (of_decide_eq_true hb81)
            refine cw_ct rfl hb81 ?_
            refine cw_seq ?_
            refine cw_region ?_
            refine sl_v rfl (r_mv rfl) ?_
            refine sl_v rfl (r_as rfl) ?_
            refine sl_nil ?_
            refine cw_ret ?_
            exact rs_1 (rt rfl) ⟨l61, rfl, h⟩
          · replace h := h.2 (of_decide_eq_false hb81)
            refine cw_cf rfl hb81 ?_
            refine cw_skip ?_
            refine cw_seq ?_
            refine cw_region ?_
            refine sl_v rfl (r_mv rfl) ?_
            refine sl_v rfl (lda_api_Merge (vs := [.string r74_0_0, .string r74_0_1]) rfl rfl (.c (cell_blk hB78 rfl) (.c (cell_blk hB78 rfl) .n))) ?_
            refine sl_op rfl (bs_sl_api_Merge (len := 1) (vs := [(0, .agg #[.string r74_0_0, .string r74_0_1])]) (cs := #[.string r74_0_0, .string r74_0_1]) (by decide) rfl rfl (fun b82 w83 hN84 => ?_))
            have hne85 : b75 ≠ b82 := Nat.ne_of_lt (Nat.lt_of_lt_of_le (lt_of_blk hB78) hN84.fresh)
            replace hB78 := hN84.ext.get hB78
            have hB86 := hN84.here
            replace hx := hx.tr hN84.ext
            obtain ⟨xs91, ho92, hb93, h⟩ := h
            obtain ⟨hn94, h⟩ := h
            refine sl_op rfl (ap_sl_api_Merge (s := l61) (xs := xs91) (m := 1) (news := [.string r74_0_0, .string r74_0_1]) rfl rfl hx ho92 (.c (cell_blk hB86 rfl) (.c (cell_blk hB86 rfl) .n)) rfl rfl hb93 (fun s88 w87 ha89 hc90 => ?_))
            replace hB78 := hc90.get hB78 hn94
            replace h := h s88 w87 ha89
            replace hx : Ext w87 w87 := Chg.refl _
            refine sl_v rfl (r_as rfl) ?_
            refine sl_nil ?_
            refine cw_seq ?_
            refine cw_region ?_
            refine sl_v rfl (r_as rfl) ?_
            refine sl_nil ?_
            refine cw_seq ?_
            refine cw_seq ?_
            refine cw_region ?_
            refine sl_v rfl (r_as rfl) ?_
            refine sl_nil ?_
            refine cw_block ?_
            obtain ⟨I97, μ98, hI99, h⟩ := h
            refine cw_loop (σ := Sl × Int) (fun s g => (upd (upd (upd (upd (upd (upd (upd (upd (nm g []) 1 (.int .i64 a1)) 2 (.int .i64 a2)) 7 (s88.v)) 10 (l62.v)) 11 (l15.v)) 13 (.pointer (some ⟨b75, 0, none⟩))) 15 (s.1.v)) 16 (.int .i64 s.2))) (fun s w => w.heap[b75]? = some (.cells #[.string r74_0_0, .string r74_0_1] t_api_Merge (0, 0)) ∧ I97 s.1 s.2 w) (fun s w => μ98 s.1 s.2 w) ((⟨none, 0, 0⟩ : Sl), 0) _ (kp (kp (kp (kp (kp (kp (kp (kp (kn rfl) rfl) rfl) rfl) rfl) rfl) rfl) rfl) rfl) ⟨hB78, hI99⟩ ?_
            rintro ⟨l95, l96⟩ g101 w100 ⟨hB103, hi102⟩
            replace h := h l95 l96 w100 hi102
            have hx : Ext w100 w100 := Chg.refl _
            change CW _ PP _ _ _ (upd (upd (upd (upd (upd (upd (upd (upd (nm g101 []) 1 (.int .i64 a1)) 2 (.int .i64 a2)) 7 (s88.v)) 10 (l62.v)) 11 (l15.v)) 13 (.pointer (some ⟨b75, 0, none⟩))) 15 (l95.v)) 16 (.int .i64 l96)) _
            refine cw_seq ?_
            refine cw_seq ?_
            refine cw_region ?_
            refine sl_v rfl (r_mv rfl) ?_
            refine sl_v rfl (r_mv rfl) ?_
            refine sl_v rfl (r_len_l (s := l62) rfl rfl Try.underlying53) ?_
            refine sl_v rfl (r_lss rfl rfl) ?_
            refine sl_nil ?_
            refine bcases (decide (l96 < ((l62.n : Nat) : Int))) (fun hb104 => ?_) (fun hb104 => ?_)
            · replace h := h.1 (of_decide_eq_true hb104)
              refine cw_ct rfl hb104 ?_
              refine cw_skip ?_
              refine cw_seq ?_
              refine cw_block ?_
              obtain ⟨k105, rfl, hk106, h⟩ := h
              obtain ⟨b107, o108, hb109, h⟩ := h
              obtain ⟨v110, hc111, h⟩ := h
              refine cw_dw (S := fun w' => w'.cell? ⟨b107, o108 + k105 * 1, none⟩ = some (v110.v) ∧ Cells w' b75 0 [.string r74_0_0, .string r74_0_1] ∧ True) mo (fun w112 hd113 => ?_)
              replace hB103 := (Ext.of_drew hd113).get hB103
              replace hx := hx.tr (Ext.of_drew hd113)
              have hS : w112.cell? ⟨b107, o108 + k105 * 1, none⟩ = some (v110.v) ∧ Cells w112 b75 0 [.string r74_0_0, .string r74_0_1] ∧ True := ⟨hx.cell hc111, (.c (cell_blk hB103 rfl) (.c (cell_blk hB103 rfl) .n)), trivial⟩
              refine dw_t 0 1 rfl (by kernel_rfl) rfl hS (fun _ _ => (r_mv rfl)) ?_
              refine dw_t 1 3 rfl (by kernel_rfl) rfl hS (fun _ _ => (r_mv rfl)) ?_
              refine dw_t 2 7 rfl (by kernel_rfl) rfl hS (fun _ _ => (r_mv rfl)) ?_
              refine dw_t 3 15 rfl (by kernel_rfl) rfl hS (fun _ _ => (ia_sl_sl_string (s := l62) (j := k105) (o' := o108 + k105 * 1) rfl rfl hk106 hb109 rfl)) ?_
              refine dw_t 4 31 rfl (by kernel_rfl) rfl hS (fun _ hS => (ld_sl_string rfl hS.1)) ?_
              refine dw_t 5 63 rfl (by kernel_rfl) rfl hS (fun _ hS => (lda_api_Merge (vs := [.string r74_0_0, .string r74_0_1]) rfl rfl hS.2.1)) ?_
              replace h := h _ hx
              replace hx : Ext w112 w112 := Chg.refl _
              refine dw_l 6 127 rfl (by kernel_rfl) rfl (ok_call c_ref16_Join rfl (Calls.mono h (fun e115 w116 hq117 => ?_)))
              clear h
              obtain ⟨r119, he118, hk120, h⟩ := hq117
              refine ⟨_, he118, ?_⟩
              replace hB103 := hk120.trans hB103
              replace hx : Ext w116 w116 := Chg.refl _
              obtain ⟨hq121, h⟩ := h
              replace hS : w116.cell? ⟨b107, o108 + k105 * 1, none⟩ = some (v110.v) ∧ Cells w116 b75 0 [.string r74_0_0, .string r74_0_1] ∧ True := ⟨hq121, (.c (cell_blk hB103 rfl) (.c (cell_blk hB103 rfl) .n)), trivial⟩
              refine ⟨hS, ?_⟩
              refine dw_l 7 255 rfl (by kernel_rfl) rfl (bs_sl_sl_string (len := 1) (vs := [(0, r119.v)]) (cs := #[r119.v]) (by decide) rfl rfl (fun b122 w123 hN124 => ?_))
              have hne125 : b75 ≠ b122 := Nat.ne_of_lt (Nat.lt_of_lt_of_le (lt_of_blk hB103) hN124.fresh)
              replace hB103 := hN124.ext.get hB103
              have hB126 := hN124.here
              replace hx := hx.tr hN124.ext
              replace hS : w123.cell? ⟨b107, o108 + k105 * 1, none⟩ = some (v110.v) ∧ Cells w123 b75 0 [.string r74_0_0, .string r74_0_1] ∧ True := ⟨hN124.ext.cell hS.1, (.c (cell_blk hB103 rfl) (.c (cell_blk hB103 rfl) .n)), trivial⟩
              refine ⟨hS, ?_⟩
              obtain ⟨xs131, ho132, hb133, h⟩ := h
              obtain ⟨hn134, h⟩ := h
              refine dw_l 8 511 rfl (by kernel_rfl) rfl (ap_sl_sl_string (s := l95) (xs := xs131) (m := 1) (news := [r119.v]) rfl rfl hx ho132 (.c (cell_blk hB126 rfl) .n) rfl rfl hb133 (fun s128 w127 ha129 hc130 => ?_))
              replace hB103 := hc130.get hB103 hn134
              replace h := h s128 w127 ha129
              replace hx : Ext w127 w127 := Chg.refl _
              obtain ⟨hq135, h⟩ := h
              replace hS : w127.cell? ⟨b107, o108 + k105 * 1, none⟩ = some (v110.v) ∧ Cells w127 b75 0 [.string r74_0_0, .string r74_0_1] ∧ True := ⟨hq135, (.c (cell_blk hB103 rfl) (.c (cell_blk hB103 rfl) .n)), trivial⟩
              refine ⟨hS, ?_⟩
              refine dw_t 9 1023 rfl (by kernel_rfl) rfl hS (fun _ _ => (r_as rfl)) ?_
              refine dw_d (by kernel_rfl) ?_
              clear hS
              refine cw_region ?_
              refine sl_v rfl (r_mv rfl) ?_
              obtain ⟨z136, hz136, h⟩ := h
              refine sl_v rfl (r_add rfl rfl hz136) ?_
              refine sl_v rfl (r_as rfl) ?_
              refine sl_nil ?_
              exact ⟨(s128, z136), _, (kp (kp (kp (kp (kp (kp (kp (kp (kn rfl) rfl) rfl) rfl) rfl) rfl) rfl) rfl) rfl), ⟨hB103, h.1⟩, h.2⟩
            · replace h := h.2 (of_decide_eq_false hb104)
              refine cw_cf rfl hb104 ?_
              refine cw_exit ?_
              refine cw_region ?_
              refine sl_v rfl (r_mv rfl) ?_
              refine sl_v rfl (r_as rfl) ?_
              refine sl_nil ?_
              exact ⟨(s88, l95), _, (kp (kp (kp (kp (kp (kn rfl) rfl) rfl) rfl) rfl) rfl), h.1, h.2⟩
        · replace h := h.2 (of_decide_eq_false hb69)
          refine cw_cf rfl hb69 ?_
          refine cw_exit ?_
          refine cw_seq ?_
          refine cw_region ?_
          refine sl_v rfl (r_mv rfl) ?_
          refine sl_v rfl (r_as rfl) ?_
          refine sl_nil ?_
          refine cw_ret ?_
          exact rs_1 (rt rfl) ⟨l61, rfl, h⟩

def VC_apply_New (a0 : Sl) (R : Option Addr → Int → World → Prop) (w : World) : Prop :=
  Calls PP n_file_Check #[a0.v] w (fun e w2 => ∃ r5_0 : Int, ∃ r5_1 : Int, e = .returned (.tuple #[.int .i64 r5_0, .int .i64 r5_1]) ∧ ((r5_1 ≠ (0 : Int) → (R none r5_1 w2)) ∧ (¬ (r5_1 ≠ (0 : Int)) → (Calls PP n_sym_New #[] w2 (fun e w8 => ∃ r11 : Option Addr, e = .returned (.pointer r11) ∧ (∀ (b12 : Nat) (w13 : World), New w8 b12 (.map #[] 0) w13 → (∀ (b15 : Nat) (w16 : World), New w13 b15 (.cells #[.pointer r11, .map (some b12)] t_apply_Coder (0, 0)) w16 → (∃ (I19 : Int → World → Prop) (μ20 : Int → World → Nat), I19 0 w16 ∧ ∀ (l18 : Int) (w22 : World), I19 l18 w22 → ((l18 < ((a0.n : Nat) : Int) → (∃ k26 : Nat, l18 = ((k26 : Nat) : Int) ∧ k26 < a0.n ∧ (∃ (b28 o29 : Nat), a0.b = some ⟨b28, o29, none⟩ ∧ (∃ v31_0 : ByteArray, ∃ v31_1 : ByteArray, Cells w22 b28 (o29 + k26 * 2) [.string v31_0, .string v31_1] ∧ (∀ (b33 : Nat) (w34 : World), Priv w22 b33 w34 → (∀ w37 : World, Chg (fun b => b = b33) w34 w37 → (∃ v39 : Option Addr, w37.cell? ⟨b15, 0, none⟩ = some (.pointer v39) ∧ (∀ w41 : World, Ext w37 w41 → (Calls PP n_sym_Table_Find #[.pointer v39, .string v31_0] w41 (fun e w45 => ∃ r48_0 : Int, ∃ r48_1 : Bool, e = .returned (.tuple #[.int .i64 r48_0, .bool r48_1]) ∧ w45.heap[b33]? = w41.heap[b33]? ∧ (w45.cell? ⟨b15, 0, none⟩ = some (.pointer v39) ∧ (∃ v51 : Option Addr, w45.cell? ⟨b15, 0, none⟩ = some (.pointer v51) ∧ (∀ w53 : World, Ext w45 w53 → (Calls PP n_sym_Table_Find #[.pointer v51, .string v31_1] w53 (fun e w57 => ∃ r60_0 : Int, ∃ r60_1 : Bool, e = .returned (.tuple #[.int .i64 r60_0, .bool r60_1]) ∧ w57.heap[b33]? = w53.heap[b33]? ∧ (w57.cell? ⟨b15, 0, none⟩ = some (.pointer v51) ∧ (∃ v63 : Option Addr, w57.cell? ⟨b15, 0, none⟩ = some (.pointer v63) ∧ (Calls PP n_sym_Table_Join #[.pointer v63, .int .i64 r48_0, .int .i64 r60_0] w57 (fun e w66 => ∃ r69_0 : Int, ∃ r69_1 : Int, e = .returned (.tuple #[.int .i64 r69_0, .int .i64 r69_1]) ∧ w66.heap[b33]? = w57.heap[b33]? ∧ ((r69_1 ≠ (0 : Int) → (R none r69_1 w66)) ∧ (¬ (r69_1 ≠ (0 : Int)) → (∃ v72 : Option Nat, w66.cell? ⟨b15, 1, none⟩ = some (.map v72) ∧ (∃ b78 : Nat, v72 = some b78 ∧ (∃ es79 : List ((Int × Int) × Int), Mp pairV intV w66 (some b78) es79 ∧ (b33 ≠ b78 ∧ (∀ w74 : World, Mp pairV intV w74 (some b78) (mput (r48_0, r60_0) r69_0 es79) → Chg (fun x => x = b78) w66 w74 → (∃ z81 : Int, z81 = IntKind.wrap .i64 (((k26 : Nat) : Int) + 1) ∧ (I19 z81 w74 ∧ μ20 z81 w74 < μ20 l18 w22)))))))))))))))))))))))))))) ∧ (¬ (l18 < ((a0.n : Nat) : Int)) → (R (some ⟨b15, 0, none⟩) 0 w22)))))))))))
set_option maxRecDepth 100000 in
theorem vc_apply_New {a0 : Sl} {R : Option Addr → Int → World → Prop} {w : World} (h : VC_apply_New a0 R w) : Calls PP n_apply_New #[a0.v] w fun e w' => ∃ r0 : Option Addr, ∃ r1 : Int, e = .returned (.tuple #[.pointer r0, .int .i64 r1]) ∧ R r0 r1 w' := by
  refine Calls.mono (calls_of_cw (n := 76) (rs := #[.tmp 2, .tmp 3]) (args := [a0.v]) (R := fun v w' => ∃ r0 : Option Addr, ∃ r1 : Int, v = .tuple #[.pointer r0, .int .i64 r1] ∧ R r0 r1 w') Try.func28 rfl rfl (Nat.le_of_ble_eq_true rfl) rfl ?_) ?_
  case refine_2 => rintro e w' ⟨v, rfl, hr⟩; obtain ⟨r0, r1, rfl, hr⟩ := hr; exact ⟨r0, r1, rfl, hr⟩
  have hx : Ext w w := Chg.refl _
  unfold VC_apply_New at h
  refine cw_seq ?_
  refine cw_region ?_
  refine sl_v rfl (r_as rfl) ?_
  refine sl_v rfl (r_as rfl) ?_
  refine sl_nil ?_
  refine cw_seq ?_
  refine cw_seq ?_
  refine cw_region ?_
  refine sl_v rfl (r_mv rfl) ?_
  refine sl_op rfl (ok_call c_file_Check rfl (Calls.mono h (fun e1 w2 hq3 => ?_)))
  clear h
  obtain ⟨r5_0, r5_1, he4, h⟩ := hq3
  refine ⟨_, he4, ?_⟩
  replace hx : Ext w2 w2 := Chg.refl _
  refine sl_v rfl (r_mv rfl) ?_
  refine sl_v rfl (r_ex rfl rfl) ?_
  refine sl_v rfl (r_ex rfl rfl) ?_
  refine sl_v rfl (r_as rfl) ?_
  refine sl_v rfl (r_as rfl) ?_
  refine sl_nil ?_
  refine cw_seq ?_
  refine cw_region ?_
  refine sl_v rfl (r_mv rfl) ?_
  refine sl_v rfl (r_neq rfl rfl) ?_
  refine sl_nil ?_
  refine bcases (decide (r5_1 ≠ (0 : Int))) (fun hb6 => ?_) (fun hb6 => ?_)
  · replace h := h.1 (of_decide_eq_true hb6)
    refine cw_ct rfl hb6 ?_
    refine cw_seq ?_
    refine cw_region ?_
    refine sl_v rfl (r_mv rfl) ?_
    refine sl_v rfl (r_as rfl) ?_
    refine sl_v rfl (r_as rfl) ?_
    refine sl_nil ?_
    refine cw_ret ?_
    exact rs_2 (rt rfl) (rt rfl) ⟨none, r5_1, rfl, h⟩
  · replace h := h.2 (of_decide_eq_false hb6)
    refine cw_cf rfl hb6 ?_
    refine cw_skip ?_
    refine cw_seq ?_
    refine cw_region ?_
    refine sl_op rfl (ok_call c_sym_New rfl (Calls.mono h (fun e7 w8 hq9 => ?_)))
    clear h
    obtain ⟨r11, he10, h⟩ := hq9
    refine ⟨_, he10, ?_⟩
    replace hx : Ext w8 w8 := Chg.refl _
    refine sl_op rfl (ok_mm (fun b12 w13 hN14 => ?_) rfl)
    replace h := h b12 w13 hN14
    replace hx : Ext w13 w13 := Chg.refl _
    refine sl_v rfl (bd_apply_Coder (vs := [(0, .pointer r11), (1, .map (some b12))]) (cs := #[.pointer r11, .map (some b12)]) rfl rfl) ?_
    refine sl_op rfl (bx_apply_Coder rfl rfl (fun b15 w16 hN17 => ?_))
    replace h := h b15 w16 hN17
    replace hx : Ext w16 w16 := Chg.refl _
    refine sl_v rfl (r_as rfl) ?_
    refine sl_nil ?_
    refine cw_seq ?_
    refine cw_seq ?_
    refine cw_region ?_
    refine sl_v rfl (r_mv rfl) ?_
    refine sl_v rfl (r_len_l (s := a0) rfl rfl Try.underlying22) ?_
    refine sl_v rfl (r_mv rfl) ?_
    refine sl_nil ?_
    refine cw_block ?_
    obtain ⟨I19, μ20, hI21, h⟩ := h
    refine cw_loop (σ := Int) (fun s g => (upd (upd (upd (upd (nm g []) 6 (.pointer (some ⟨b15, 0, none⟩))) 27 (a0.v)) 28 (.int .i64 ((a0.n : Nat) : Int))) 29 (.int .i64 s))) (fun s w => I19 s w) (fun s w => μ20 s w) (0) _ (kp (kp (kp (kp (kn rfl) rfl) rfl) rfl) rfl) hI21 ?_
    rintro l18 g23 w22 hi24
    replace h := h l18 w22 hi24
    have hx : Ext w22 w22 := Chg.refl _
    change CW _ PP _ _ _ (upd (upd (upd (upd (nm g23 []) 6 (.pointer (some ⟨b15, 0, none⟩))) 27 (a0.v)) 28 (.int .i64 ((a0.n : Nat) : Int))) 29 (.int .i64 l18)) _
    refine cw_seq ?_
    refine cw_region ?_
    refine sl_v rfl (r_lss rfl rfl) ?_
    refine sl_nil ?_
    refine cw_seq ?_
    refine bcases (decide (l18 < ((a0.n : Nat) : Int))) (fun hb25 => ?_) (fun hb25 => ?_)
    · replace h := h.1 (of_decide_eq_true hb25)
      refine cw_ct rfl hb25 ?_
      refine cw_skip ?_
      refine cw_seq ?_
      refine cw_block ?_
      refine cw_seq ?_
      refine cw_region ?_
      obtain ⟨k26, rfl, hk27, h⟩ := h
      obtain ⟨b28, o29, hb30, h⟩ := h
      refine sl_v rfl (ia_sl_api_Merge (s := a0) (j := k26) (o' := o29 + k26 * 2) rfl rfl hk27 hb30 rfl) ?_
      obtain ⟨v31_0, v31_1, hc32, h⟩ := h
      refine sl_v rfl (lda_api_Merge rfl rfl hc32) ?_
      refine sl_op rfl (al_api_Merge rfl (fun b33 w34 hN35 => ?_))
      have hB36 := hN35.here
      replace h := h b33 w34 ⟨hx.tr hN35.ext, Nat.le_trans hx.size hN35.fresh, lt_of_blk hN35.here⟩
      replace hx : Ext w34 w34 := Chg.refl _
      refine sl_op rfl (st_api_Merge (vs := [.string v31_0, .string v31_1]) rfl rfl rfl rfl rfl ⟨_, _, hB36, Nat.le_of_ble_eq_true rfl⟩ (fun w37 hw38 => ?_))
      have hc_ := sto_chg hw38
      replace hB36 : w37.heap[b33]? = some (.cells #[.string v31_0, .string v31_1] t_api_Merge (0, 0)) := sto_blk hw38 hB36
      replace h := h w37 (Chg.pre hx hc_)
      replace hx : Ext w37 w37 := Chg.refl _
      clear hc_
      refine sl_nil ?_
      refine cw_seq ?_
      obtain ⟨v39, hc40, h⟩ := h
      refine cw_dw (S := fun w' => w'.cell? ⟨b15, 0, none⟩ = some (.pointer v39) ∧ w'.cell? ⟨b33, 0, none⟩ = some (.string v31_0) ∧ True) mo (fun w41 hd42 => ?_)
      replace hB36 := (Ext.of_drew hd42).get hB36
      replace hx := hx.tr (Ext.of_drew hd42)
      have hS : w41.cell? ⟨b15, 0, none⟩ = some (.pointer v39) ∧ w41.cell? ⟨b33, 0, none⟩ = some (.string v31_0) ∧ True := ⟨hx.cell hc40, (cell_blk hB36 rfl), trivial⟩
      refine dw_t 0 1 rfl (by kernel_rfl) rfl hS (fun _ _ => (r_mv rfl)) ?_
      refine dw_t 1 3 rfl (by kernel_rfl) rfl hS (fun _ _ => (r_nc rfl)) ?_
      refine dw_t 2 7 rfl (by kernel_rfl) rfl hS (fun _ _ => (fa_apply_Coder_0 (o' := 0) rfl rfl)) ?_
      refine dw_t 3 15 rfl (by kernel_rfl) rfl hS (fun _ hS => (ld_p_sym_Table rfl hS.1)) ?_
      refine dw_t 4 31 rfl (by kernel_rfl) rfl hS (fun _ _ => (fa_api_Merge_0 (o' := 0) rfl rfl)) ?_
      refine dw_t 5 63 rfl (by kernel_rfl) rfl hS (fun _ hS => (ld_string rfl hS.2.1)) ?_
      replace h := h _ hx
      replace hx : Ext w41 w41 := Chg.refl _
      refine dw_l 6 127 rfl (by kernel_rfl) rfl (ok_call c_sym_Table_Find rfl (Calls.mono h (fun e44 w45 hq46 => ?_)))
      clear h
      obtain ⟨r48_0, r48_1, he47, hk49, h⟩ := hq46
      refine ⟨_, he47, ?_⟩
      replace hB36 := hk49.trans hB36
      replace hx : Ext w45 w45 := Chg.refl _
      obtain ⟨hq50, h⟩ := h
      replace hS : w45.cell? ⟨b15, 0, none⟩ = some (.pointer v39) ∧ w45.cell? ⟨b33, 0, none⟩ = some (.string v31_0) ∧ True := ⟨hq50, (cell_blk hB36 rfl), trivial⟩
      refine ⟨hS, ?_⟩
      refine dw_t 7 255 rfl (by kernel_rfl) rfl hS (fun _ _ => (r_mv rfl)) ?_
      refine dw_t 8 511 rfl (by kernel_rfl) rfl hS (fun _ _ => (r_ex rfl rfl)) ?_
      refine dw_t 9 1023 rfl (by kernel_rfl) rfl hS (fun _ _ => (r_ex rfl rfl)) ?_
      refine dw_t 10 2047 rfl (by kernel_rfl) rfl hS (fun _ _ => (r_as rfl)) ?_
      refine dw_t 11 4095 rfl (by kernel_rfl) rfl hS (fun _ _ => (r_as rfl)) ?_
      refine dw_d (by kernel_rfl) ?_
      clear hS
      refine cw_seq ?_
      obtain ⟨v51, hc52, h⟩ := h
      refine cw_dw (S := fun w' => w'.cell? ⟨b15, 0, none⟩ = some (.pointer v51) ∧ w'.cell? ⟨b33, 1, none⟩ = some (.string v31_1) ∧ True) mo (fun w53 hd54 => ?_)
      replace hB36 := (Ext.of_drew hd54).get hB36
      replace hx := hx.tr (Ext.of_drew hd54)
      have hS : w53.cell? ⟨b15, 0, none⟩ = some (.pointer v51) ∧ w53.cell? ⟨b33, 1, none⟩ = some (.string v31_1) ∧ True := ⟨hx.cell hc52, (cell_blk hB36 rfl), trivial⟩
      refine dw_t 0 1 rfl (by kernel_rfl) rfl hS (fun _ _ => (r_mv rfl)) ?_
      refine dw_t 1 3 rfl (by kernel_rfl) rfl hS (fun _ _ => (r_nc rfl)) ?_
      refine dw_t 2 7 rfl (by kernel_rfl) rfl hS (fun _ _ => (fa_apply_Coder_0 (o' := 0) rfl rfl)) ?_
      refine dw_t 3 15 rfl (by kernel_rfl) rfl hS (fun _ hS => (ld_p_sym_Table rfl hS.1)) ?_
      refine dw_t 4 31 rfl (by kernel_rfl) rfl hS (fun _ _ => (fa_api_Merge_1 (o' := 1) rfl rfl)) ?_
      refine dw_t 5 63 rfl (by kernel_rfl) rfl hS (fun _ hS => (ld_string rfl hS.2.1)) ?_
      replace h := h _ hx
      replace hx : Ext w53 w53 := Chg.refl _
      refine dw_l 6 127 rfl (by kernel_rfl) rfl (ok_call c_sym_Table_Find rfl (Calls.mono h (fun e56 w57 hq58 => ?_)))
      clear h
      obtain ⟨r60_0, r60_1, he59, hk61, h⟩ := hq58
      refine ⟨_, he59, ?_⟩
      replace hB36 := hk61.trans hB36
      replace hx : Ext w57 w57 := Chg.refl _
      obtain ⟨hq62, h⟩ := h
      replace hS : w57.cell? ⟨b15, 0, none⟩ = some (.pointer v51) ∧ w57.cell? ⟨b33, 1, none⟩ = some (.string v31_1) ∧ True := ⟨hq62, (cell_blk hB36 rfl), trivial⟩
      refine ⟨hS, ?_⟩
      refine dw_t 7 255 rfl (by kernel_rfl) rfl hS (fun _ _ => (r_mv rfl)) ?_
      refine dw_t 8 511 rfl (by kernel_rfl) rfl hS (fun _ _ => (r_ex rfl rfl)) ?_
      refine dw_t 9 1023 rfl (by kernel_rfl) rfl hS (fun _ _ => (r_ex rfl rfl)) ?_
      refine dw_t 10 2047 rfl (by kernel_rfl) rfl hS (fun _ _ => (r_as rfl)) ?_
      refine dw_t 11 4095 rfl (by kernel_rfl) rfl hS (fun _ _ => (r_as rfl)) ?_
      refine dw_d (by kernel_rfl) ?_
      clear hS
      refine cw_seq ?_
      refine cw_region ?_
      refine sl_v rfl (r_mv rfl) ?_
      refine sl_v rfl (r_nc rfl) ?_
      refine sl_v rfl (fa_apply_Coder_0 (o' := 0) rfl rfl) ?_
      obtain ⟨v63, hc64, h⟩ := h
      refine sl_v rfl (ld_p_sym_Table rfl hc64) ?_
      refine sl_v rfl (r_mv rfl) ?_
      refine sl_v rfl (r_mv rfl) ?_
      refine sl_op rfl (ok_call c_sym_Table_Join rfl (Calls.mono h (fun e65 w66 hq67 => ?_)))
      clear h
      obtain ⟨r69_0, r69_1, he68, hk70, h⟩ := hq67
      refine ⟨_, he68, ?_⟩
      replace hB36 := hk70.trans hB36
      replace hx : Ext w66 w66 := Chg.refl _
      refine sl_v rfl (r_mv rfl) ?_
      refine sl_v rfl (r_ex rfl rfl) ?_
      refine sl_v rfl (r_ex rfl rfl) ?_
      refine sl_v rfl (r_as rfl) ?_
      refine sl_v rfl (r_as rfl) ?_
      refine sl_nil ?_
      refine cw_seq ?_
      refine cw_seq ?_
      refine cw_region ?_
      refine sl_v rfl (r_mv rfl) ?_
      refine sl_v rfl (r_neq rfl rfl) ?_
      refine sl_nil ?_
      refine bcases (decide (r69_1 ≠ (0 : Int))) (fun hb71 => ?_) (fun hb71 => ?_)
      · replace h := h.1 (of_decide_eq_true hb71)
        refine cw_ct rfl hb71 ?_
        refine cw_seq ?_
        refine cw_region ?_
        refine sl_v rfl (r_mv rfl) ?_
        refine sl_v rfl (r_as rfl) ?_
        refine sl_v rfl (r_as rfl) ?_
        refine sl_nil ?_
        refine cw_ret ?_
        exact rs_2 (rt rfl) (rt rfl) ⟨none, r69_1, rfl, h⟩
      · replace h := h.2 (of_decide_eq_false hb71)
        refine cw_cf rfl hb71 ?_
        refine cw_skip ?_
        refine cw_region ?_
        refine sl_v rfl (r_mv rfl) ?_
        refine sl_v rfl (r_nc rfl) ?_
        refine sl_v rfl (fa_apply_Coder_1 (o' := 1) rfl rfl) ?_
        obtain ⟨v72, hc73, h⟩ := h
        refine sl_v rfl (ld_map_api_Pair_int rfl hc73) ?_
        refine sl_v rfl (r_mv rfl) ?_
        refine sl_v rfl (r_mv rfl) ?_
        refine sl_v rfl (bd_api_Pair (vs := [(0, .int .i64 r48_0), (1, .int .i64 r60_0)]) (cs := #[.int .i64 r48_0, .int .i64 r60_0]) rfl rfl) ?_
        refine sl_v rfl (r_mv rfl) ?_
        obtain ⟨b78, rfl, h⟩ := h
        obtain ⟨es79, hm77, h⟩ := h
        obtain ⟨hn80, h⟩ := h
        refine sl_op rfl (mu_map_api_Pair_int (a := (r48_0, r60_0)) (c := r69_0) rfl rfl rfl hm77 (fun w74 hq75 hc76 => ?_))
        replace hB36 := hc76.get hB36 hn80
        replace h := h w74 hq75 hc76
        replace hx : Ext w74 w74 := Chg.refl _
        refine sl_nil ?_
        refine cw_region ?_
        obtain ⟨z81, hz81, h⟩ := h
        refine sl_v rfl (r_add rfl rfl hz81) ?_
        refine sl_v rfl (r_mv rfl) ?_
        refine sl_nil ?_
        exact ⟨(z81), _, (kp (kp (kp (kp (kn rfl) rfl) rfl) rfl) rfl), h.1, h.2⟩
    · replace h := h.2 (of_decide_eq_false hb25)
      refine cw_cf rfl hb25 ?_
      refine cw_exit ?_
      refine cw_seq ?_
      refine cw_region ?_
      refine sl_v rfl (r_mv rfl) ?_
      refine sl_v rfl (r_as rfl) ?_
      refine sl_v rfl (r_as rfl) ?_
      refine sl_nil ?_
      refine cw_ret ?_
      exact rs_2 (rt rfl) (rt rfl) ⟨some ⟨b15, 0, none⟩, 0, rfl, h⟩
def VC_ref17_Words (a0 : Sl) (a1 : Sl) (R : Sl → World → Prop) (w : World) : Prop :=
  ∃ (I3 : Sl → Int → World → Prop) (μ4 : Sl → Int → World → Nat), I3 (⟨none, 0, 0⟩ : Sl) 0 w ∧ ∀ (l1 : Sl) (l2 : Int) (w6 : World), I3 l1 l2 w6 → ((l2 < ((a0.n : Nat) : Int) → (∃ k10 : Nat, l2 = ((k10 : Nat) : Int) ∧ k10 < a0.n ∧ (∃ (b12 o13 : Nat), a0.b = some ⟨b12, o13, none⟩ ∧ (∃ v15 : ByteArray, w6.cell? ⟨b12, o13 + k10 * 2, none⟩ = some (.string v15) ∧ (Calls PP n_ref16_Texts #[.string v15] w6 (fun e w18 => ∃ r21 : Sl, e = .returned (r21.v) ∧ (∃ (I24 : Sl → Int → World → Prop) (μ25 : Sl → Int → World → Nat), I24 r21 0 w18 ∧ ∀ (l22 : Sl) (l23 : Int) (w27 : World), I24 l22 l23 w27 → ((l23 < ((a1.n : Nat) : Int) → (∃ k31 : Nat, l23 = ((k31 : Nat) : Int) ∧ k31 < a1.n ∧ (∃ (b33 o34 : Nat), a1.b = some ⟨b33, o34, none⟩ ∧ (∃ v36_0 : ByteArray, ∃ v36_1 : ByteArray, Cells w27 b33 (o34 + k31 * 2) [.string v36_0, .string v36_1] ∧ (Calls PP n_ref16_Join #[l22.v, .agg #[.string v36_0, .string v36_1]] w27 (fun e w39 => ∃ r42 : Sl, e = .returned (r42.v) ∧ (∃ z43 : Int, z43 = IntKind.wrap .i64 (((k31 : Nat) : Int) + 1) ∧ (I24 r42 z43 w39 ∧ μ25 r42 z43 w39 < μ25 l22 l23 w27)))))))) ∧ (¬ (l23 < ((a1.n : Nat) : Int)) → (∃ xs52 : List Value, Own w27 t_sl_string 1 l1 xs52 ∧ ((l1.n + 1) * 24 ≤ 140737488355328 ∧ l1.n + 1 ≤ maxLen) ∧ (∀ (s49 : Sl) (w48 : World), App w27 t_sl_string 1 l1 xs52 1 [l22.v] s49 w48 → (∃ z55 : Int, z55 = IntKind.wrap .i64 (((k10 : Nat) : Int) + 1) ∧ (I3 s49 z55 w48 ∧ μ4 s49 z55 w48 < μ4 l1 l2 w6))))))))))))) ∧ (¬ (l2 < ((a0.n : Nat) : Int)) → (R l1 w6)))
set_option maxRecDepth 100000 in
theorem vc_ref17_Words {a0 : Sl} {a1 : Sl} {R : Sl → World → Prop} {w : World} (h : VC_ref17_Words a0 a1 R w) : Calls PP n_ref17_Words #[a0.v, a1.v] w fun e w' => ∃ r0 : Sl, e = .returned (r0.v) ∧ R r0 w' := by
  refine Calls.mono (calls_of_cw (n := 38) (rs := #[.tmp 4]) (args := [a0.v, a1.v]) (R := fun v w' => ∃ r0 : Sl, v = r0.v ∧ R r0 w') Try.func29 rfl rfl (Nat.le_of_ble_eq_true rfl) rfl ?_) ?_
  case refine_2 => rintro e w' ⟨v, rfl, hr⟩; obtain ⟨r0, rfl, hr⟩ := hr; exact ⟨r0, rfl, hr⟩
  have hx : Ext w w := Chg.refl _
  unfold VC_ref17_Words at h
  refine cw_seq ?_
  refine cw_region ?_
  refine sl_v rfl (r_as rfl) ?_
  refine sl_nil ?_
  refine cw_seq ?_
  refine cw_region ?_
  refine sl_v rfl (r_as rfl) ?_
  refine sl_nil ?_
  refine cw_seq ?_
  refine cw_seq ?_
  refine cw_region ?_
  refine sl_v rfl (r_as rfl) ?_
  refine sl_nil ?_
  refine cw_block ?_
  obtain ⟨I3, μ4, hI5, h⟩ := h
  refine cw_loop (σ := Sl × Int) (fun s g => (upd (upd (upd (upd (nm g []) 0 (a0.v)) 1 (a1.v)) 5 (s.1.v)) 6 (.int .i64 s.2))) (fun s w => I3 s.1 s.2 w) (fun s w => μ4 s.1 s.2 w) ((⟨none, 0, 0⟩ : Sl), 0) _ (kp (kp (kp (kp (kn rfl) rfl) rfl) rfl) rfl) hI5 ?_
  rintro ⟨l1, l2⟩ g7 w6 hi8
  replace h := h l1 l2 w6 hi8
  have hx : Ext w6 w6 := Chg.refl _
  change CW _ PP _ _ _ (upd (upd (upd (upd (nm g7 []) 0 (a0.v)) 1 (a1.v)) 5 (l1.v)) 6 (.int .i64 l2)) _
  refine cw_seq ?_
  refine cw_seq ?_
  refine cw_region ?_
  refine sl_v rfl (r_mv rfl) ?_
  refine sl_v rfl (r_mv rfl) ?_
  refine sl_v rfl (r_len_l (s := a0) rfl rfl Try.underlying46) ?_
  refine sl_v rfl (r_lss rfl rfl) ?_
  refine sl_nil ?_
  refine bcases (decide (l2 < ((a0.n : Nat) : Int))) (fun hb9 => ?_) (fun hb9 => ?_)
  · replace h := h.1 (of_decide_eq_true hb9)
    refine cw_ct rfl hb9 ?_
    refine cw_skip ?_
    refine cw_seq ?_
    refine cw_block ?_
    refine cw_seq ?_
    refine cw_region ?_
    refine sl_v rfl (r_mv rfl) ?_
    refine sl_v rfl (r_mv rfl) ?_
    obtain ⟨k10, rfl, hk11, h⟩ := h
    obtain ⟨b12, o13, hb14, h⟩ := h
    refine sl_v rfl (ia_sl_api_Word (s := a0) (j := k10) (o' := o13 + k10 * 2) rfl rfl hk11 hb14 rfl) ?_
    refine sl_v rfl (fa_api_Word_0 (o' := o13 + k10 * 2) rfl rfl) ?_
    obtain ⟨v15, hc16, h⟩ := h
    refine sl_v rfl (ld_string rfl hc16) ?_
    refine sl_op rfl (ok_call c_ref16_Texts rfl (Calls.mono h (fun e17 w18 hq19 => ?_)))
    clear h
    obtain ⟨r21, he20, h⟩ := hq19
    refine ⟨_, he20, ?_⟩
    replace hx : Ext w18 w18 := Chg.refl _
    refine sl_v rfl (r_as rfl) ?_
    refine sl_nil ?_
    refine cw_seq ?_
    refine cw_seq ?_
    refine cw_region ?_
    refine sl_v rfl (r_as rfl) ?_
    refine sl_nil ?_
    refine cw_block ?_
    obtain ⟨I24, μ25, hI26, h⟩ := h
    refine cw_loop (σ := Sl × Int) (fun s g => (upd (upd (upd (upd (upd (upd (nm g []) 0 (a0.v)) 1 (a1.v)) 5 (l1.v)) 6 (.int .i64 ((k10 : Nat) : Int))) 7 (s.1.v)) 8 (.int .i64 s.2))) (fun s w => I24 s.1 s.2 w) (fun s w => μ25 s.1 s.2 w) (r21, 0) _ (kp (kp (kp (kp (kp (kp (kn rfl) rfl) rfl) rfl) rfl) rfl) rfl) hI26 ?_
    rintro ⟨l22, l23⟩ g28 w27 hi29
    replace h := h l22 l23 w27 hi29
    have hx : Ext w27 w27 := Chg.refl _
    change CW _ PP _ _ _ (upd (upd (upd (upd (upd (upd (nm g28 []) 0 (a0.v)) 1 (a1.v)) 5 (l1.v)) 6 (.int .i64 ((k10 : Nat) : Int))) 7 (l22.v)) 8 (.int .i64 l23)) _
    refine cw_seq ?_
    refine cw_seq ?_
    refine cw_region ?_
    refine sl_v rfl (r_mv rfl) ?_
    refine sl_v rfl (r_mv rfl) ?_
    refine sl_v rfl (r_len_l (s := a1) rfl rfl Try.underlying22) ?_
    refine sl_v rfl (r_lss rfl rfl) ?_
    refine sl_nil ?_
    refine bcases (decide (l23 < ((a1.n : Nat) : Int))) (fun hb30 => ?_) (fun hb30 => ?_)
    · replace h := h.1 (of_decide_eq_true hb30)
      refine cw_ct rfl hb30 ?_
      refine cw_skip ?_
      refine cw_seq ?_
      refine cw_block ?_
      refine cw_region ?_
      refine sl_v rfl (r_mv rfl) ?_
      refine sl_v rfl (r_mv rfl) ?_
      refine sl_v rfl (r_mv rfl) ?_
      obtain ⟨k31, rfl, hk32, h⟩ := h
      obtain ⟨b33, o34, hb35, h⟩ := h
      refine sl_v rfl (ia_sl_api_Merge (s := a1) (j := k31) (o' := o34 + k31 * 2) rfl rfl hk32 hb35 rfl) ?_
      obtain ⟨v36_0, v36_1, hc37, h⟩ := h
      refine sl_v rfl (lda_api_Merge rfl rfl hc37) ?_
      refine sl_op rfl (ok_call c_ref16_Join rfl (Calls.mono h (fun e38 w39 hq40 => ?_)))
      clear h
      obtain ⟨r42, he41, h⟩ := hq40
      refine ⟨_, he41, ?_⟩
      replace hx : Ext w39 w39 := Chg.refl _
      refine sl_v rfl (r_as rfl) ?_
      refine sl_nil ?_
      refine cw_region ?_
      refine sl_v rfl (r_mv rfl) ?_
      obtain ⟨z43, hz43, h⟩ := h
      refine sl_v rfl (r_add rfl rfl hz43) ?_
      refine sl_v rfl (r_as rfl) ?_
      refine sl_nil ?_
      exact ⟨(r42, z43), _, (kp (kp (kp (kp (kp (kp (kn rfl) rfl) rfl) rfl) rfl) rfl) rfl), h.1, h.2⟩
    · replace h := h.2 (of_decide_eq_false hb30)
      refine cw_cf rfl hb30 ?_
      refine cw_exit ?_
      refine cw_region ?_
      refine sl_v rfl (r_mv rfl) ?_
      refine sl_v rfl (r_mv rfl) ?_
      refine sl_op rfl (bs_sl_sl_string (len := 1) (vs := [(0, l22.v)]) (cs := #[l22.v]) (by decide) rfl rfl (fun b44 w45 hN46 => ?_))
      have hB47 := hN46.here
      replace hx := hx.tr hN46.ext
      obtain ⟨xs52, ho53, hb54, h⟩ := h
      refine sl_op rfl (ap_sl_sl_string (s := l1) (xs := xs52) (m := 1) (news := [l22.v]) rfl rfl hx ho53 (.c (cell_blk hB47 rfl) .n) rfl rfl hb54 (fun s49 w48 ha50 hc51 => ?_))
      replace h := h s49 w48 ha50
      replace hx : Ext w48 w48 := Chg.refl _
      refine sl_v rfl (r_as rfl) ?_
      refine sl_nil ?_
      refine cw_region ?_
      refine sl_v rfl (r_mv rfl) ?_
      obtain ⟨z55, hz55, h⟩ := h
      refine sl_v rfl (r_add rfl rfl hz55) ?_
      refine sl_v rfl (r_as rfl) ?_
      refine sl_nil ?_
      exact ⟨(s49, z55), _, (kp (kp (kp (kp (kn rfl) rfl) rfl) rfl) rfl), h.1, h.2⟩
  · replace h := h.2 (of_decide_eq_false hb9)
    refine cw_cf rfl hb9 ?_
    refine cw_exit ?_
    refine cw_seq ?_
    refine cw_region ?_
    refine sl_v rfl (r_mv rfl) ?_
    refine sl_v rfl (r_as rfl) ?_
    refine sl_nil ?_
    refine cw_ret ?_
    exact rs_1 (rt rfl) ⟨l1, rfl, h⟩

def VC_apply_Coder_Split (a0 : Option Addr) (a1 : ByteArray) (R : Sl → World → Prop) (w : World) : Prop :=
  Calls PP n_apply_Coder_Encode #[.pointer a0, .string a1] w (fun e w2 => ∃ r5 : Sl, e = .returned (r5.v) ∧ (∃ (I8 : Sl → Int → World → Prop) (μ9 : Sl → Int → World → Nat), I8 (⟨none, 0, 0⟩ : Sl) 0 w2 ∧ ∀ (l6 : Sl) (l7 : Int) (w11 : World), I8 l6 l7 w11 → ((l7 < ((r5.n : Nat) : Int) → (∃ k15 : Nat, l7 = ((k15 : Nat) : Int) ∧ k15 < r5.n ∧ (∃ (b17 o18 : Nat), r5.b = some ⟨b17, o18, none⟩ ∧ (∃ v20 : Int, w11.cell? ⟨b17, o18 + k15 * 1, none⟩ = some (.int .i64 v20) ∧ (∃ (b22 o23 : Nat), a0 = some ⟨b22, o23, none⟩ ∧ (∃ v24 : Option Addr, w11.cell? ⟨b22, o23, none⟩ = some (.pointer v24) ∧ (Calls PP n_sym_Table_Text #[.pointer v24, .int .i64 v20] w11 (fun e w27 => ∃ r30_0 : ByteArray, ∃ r30_1 : Bool, e = .returned (.tuple #[.string r30_0, .bool r30_1]) ∧ (∃ xs39 : List Value, Own w27 t_string 1 l6 xs39 ∧ ((l6.n + 1) * 16 ≤ 140737488355328 ∧ l6.n + 1 ≤ maxLen) ∧ (∀ (s36 : Sl) (w35 : World), App w27 t_string 1 l6 xs39 1 [.string r30_0] s36 w35 → (∃ z42 : Int, z42 = IntKind.wrap .i64 (((k15 : Nat) : Int) + 1) ∧ (I8 s36 z42 w35 ∧ μ9 s36 z42 w35 < μ9 l6 l7 w11)))))))))))) ∧ (¬ (l7 < ((r5.n : Nat) : Int)) → (R l6 w11)))))
set_option maxRecDepth 100000 in
theorem vc_apply_Coder_Split {a0 : Option Addr} {a1 : ByteArray} {R : Sl → World → Prop} {w : World} (h : VC_apply_Coder_Split a0 a1 R w) : Calls PP n_apply_Coder_Split #[.pointer a0, .string a1] w fun e w' => ∃ r0 : Sl, e = .returned (r0.v) ∧ R r0 w' := by
  refine Calls.mono (calls_of_cw (n := 33) (rs := #[.tmp 4]) (args := [.pointer a0, .string a1]) (R := fun v w' => ∃ r0 : Sl, v = r0.v ∧ R r0 w') Try.func30 rfl rfl (Nat.le_of_ble_eq_true rfl) rfl ?_) ?_
  case refine_2 => rintro e w' ⟨v, rfl, hr⟩; obtain ⟨r0, rfl, hr⟩ := hr; exact ⟨r0, rfl, hr⟩
  have hx : Ext w w := Chg.refl _
  unfold VC_apply_Coder_Split at h
  refine cw_seq ?_
  refine cw_region ?_
  refine sl_v rfl (r_as rfl) ?_
  refine sl_nil ?_
  refine cw_seq ?_
  refine cw_region ?_
  refine sl_v rfl (r_as rfl) ?_
  refine sl_nil ?_
  refine cw_seq ?_
  refine cw_seq ?_
  refine cw_region ?_
  refine sl_v rfl (r_mv rfl) ?_
  refine sl_v rfl (r_mv rfl) ?_
  refine sl_op rfl (ok_call c_apply_Coder_Encode rfl (Calls.mono h (fun e1 w2 hq3 => ?_)))
  clear h
  obtain ⟨r5, he4, h⟩ := hq3
  refine ⟨_, he4, ?_⟩
  replace hx : Ext w2 w2 := Chg.refl _
  refine sl_v rfl (r_len_l (s := r5) rfl rfl Try.underlying58) ?_
  refine sl_v rfl (r_mv rfl) ?_
  refine sl_nil ?_
  refine cw_block ?_
  obtain ⟨I8, μ9, hI10, h⟩ := h
  refine cw_loop (σ := Sl × Int) (fun s g => (upd (upd (upd (upd (upd (nm g []) 0 (.pointer a0)) 5 (s.1.v)) 12 (r5.v)) 13 (.int .i64 ((r5.n : Nat) : Int))) 14 (.int .i64 s.2))) (fun s w => I8 s.1 s.2 w) (fun s w => μ9 s.1 s.2 w) ((⟨none, 0, 0⟩ : Sl), 0) _ (kp (kp (kp (kp (kp (kn rfl) rfl) rfl) rfl) rfl) rfl) hI10 ?_
  rintro ⟨l6, l7⟩ g12 w11 hi13
  replace h := h l6 l7 w11 hi13
  have hx : Ext w11 w11 := Chg.refl _
  change CW _ PP _ _ _ (upd (upd (upd (upd (upd (nm g12 []) 0 (.pointer a0)) 5 (l6.v)) 12 (r5.v)) 13 (.int .i64 ((r5.n : Nat) : Int))) 14 (.int .i64 l7)) _
  refine cw_seq ?_
  refine cw_region ?_
  refine sl_v rfl (r_lss rfl rfl) ?_
  refine sl_nil ?_
  refine cw_seq ?_
  refine bcases (decide (l7 < ((r5.n : Nat) : Int))) (fun hb14 => ?_) (fun hb14 => ?_)
  · replace h := h.1 (of_decide_eq_true hb14)
    refine cw_ct rfl hb14 ?_
    refine cw_skip ?_
    refine cw_seq ?_
    refine cw_block ?_
    refine cw_seq ?_
    refine cw_region ?_
    obtain ⟨k15, rfl, hk16, h⟩ := h
    obtain ⟨b17, o18, hb19, h⟩ := h
    refine sl_v rfl (ia_sl_int (s := r5) (j := k15) (o' := o18 + k15 * 1) rfl rfl hk16 hb19 rfl) ?_
    obtain ⟨v20, hc21, h⟩ := h
    refine sl_v rfl (ld_int rfl hc21) ?_
    refine sl_v rfl (r_as rfl) ?_
    refine sl_nil ?_
    refine cw_seq ?_
    refine cw_region ?_
    refine sl_v rfl (r_mv rfl) ?_
    obtain ⟨b22, o23, rfl, h⟩ := h
    refine sl_v rfl (r_nc rfl) ?_
    refine sl_v rfl (fa_apply_Coder_0 (o' := o23) rfl rfl) ?_
    obtain ⟨v24, hc25, h⟩ := h
    refine sl_v rfl (ld_p_sym_Table rfl hc25) ?_
    refine sl_v rfl (r_mv rfl) ?_
    refine sl_op rfl (ok_call c_sym_Table_Text rfl (Calls.mono h (fun e26 w27 hq28 => ?_)))
    clear h
    obtain ⟨r30_0, r30_1, he29, h⟩ := hq28
    refine ⟨_, he29, ?_⟩
    replace hx : Ext w27 w27 := Chg.refl _
    refine sl_v rfl (r_mv rfl) ?_
    refine sl_v rfl (r_ex rfl rfl) ?_
    refine sl_v rfl (r_ex rfl rfl) ?_
    refine sl_v rfl (r_as rfl) ?_
    refine sl_v rfl (r_as rfl) ?_
    refine sl_nil ?_
    refine cw_region ?_
    refine sl_v rfl (r_mv rfl) ?_
    refine sl_v rfl (r_mv rfl) ?_
    refine sl_op rfl (bs_sl_string (len := 1) (vs := [(0, .string r30_0)]) (cs := #[.string r30_0]) (by decide) rfl rfl (fun b31 w32 hN33 => ?_))
    have hB34 := hN33.here
    replace hx := hx.tr hN33.ext
    obtain ⟨xs39, ho40, hb41, h⟩ := h
    refine sl_op rfl (ap_sl_string (s := l6) (xs := xs39) (m := 1) (news := [.string r30_0]) rfl rfl hx ho40 (.c (cell_blk hB34 rfl) .n) rfl rfl hb41 (fun s36 w35 ha37 hc38 => ?_))
    replace h := h s36 w35 ha37
    replace hx : Ext w35 w35 := Chg.refl _
    refine sl_v rfl (r_as rfl) ?_
    refine sl_nil ?_
    refine cw_region ?_
    obtain ⟨z42, hz42, h⟩ := h
    refine sl_v rfl (r_add rfl rfl hz42) ?_
    refine sl_v rfl (r_mv rfl) ?_
    refine sl_nil ?_
    exact ⟨(s36, z42), _, (kp (kp (kp (kp (kp (kn rfl) rfl) rfl) rfl) rfl) rfl), h.1, h.2⟩
  · replace h := h.2 (of_decide_eq_false hb14)
    refine cw_cf rfl hb14 ?_
    refine cw_exit ?_
    refine cw_seq ?_
    refine cw_region ?_
    refine sl_v rfl (r_mv rfl) ?_
    refine sl_v rfl (r_as rfl) ?_
    refine sl_nil ?_
    refine cw_ret ?_
    exact rs_1 (rt rfl) ⟨l6, rfl, h⟩

end Go.Proofs.Ytchjcjocihckpaa.G
