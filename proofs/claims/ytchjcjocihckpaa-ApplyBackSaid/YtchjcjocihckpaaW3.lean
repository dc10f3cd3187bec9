/- What is to be shown of each function, and that it is enough. -/
import Derived.Test.YtchjcjocihckpaaT
set_option linter.unusedVariables false
namespace Go.Proofs.Ytchjcjocihckpaa.G
open Go Go.RowKit
def VC_ref18_Check (a0 : Sl) (R : Int → Int → World → Prop) (w : World) : Prop :=
  ∃ (I2 : Int → World → Prop) (μ3 : Int → World → Nat), I2 0 w ∧ ∀ (l1 : Int) (w5 : World), I2 l1 w5 → ((l1 < ((a0.n : Nat) : Int) → (∃ K10 : Bool → World → Prop, (∀ (j9 : Bool) (w12 : World), K10 j9 w12 → ((j9 = true → (R l1 7 w12)) ∧ (j9 = false → (∃ k45 : Nat, l1 = ((k45 : Nat) : Int) ∧ k45 < a0.n ∧ (∃ (b47 o48 : Nat), a0.b = some ⟨b47, o48, none⟩ ∧ (∃ v50 : ByteArray, w12.cell? ⟨b47, o48 + k45 * 2, none⟩ = some (.string v50) ∧ (∃ v52 : ByteArray, w12.cell? ⟨b47, o48 + k45 * 2 + 1, none⟩ = some (.string v52) ∧ (∃ z54 : Int, z54 = IntKind.wrap .i64 (((v50.size : Nat) : Int) + ((v52.size : Nat) : Int)) ∧ (((65536 : Int) < z54 → (∀ w43 : World, Ext w12 w43 → (R ((k45 : Nat) : Int) 4 w43))) ∧ (¬ ((65536 : Int) < z54) → (∀ w43 : World, Ext w12 w43 → (∃ (I59 : Int → World → Prop) (μ60 : Int → World → Nat), I59 0 w43 ∧ ∀ (l58 : Int) (w62 : World), I59 l58 w62 → ((l58 < ((k45 : Nat) : Int) → (∃ k68 : Nat, l58 = ((k68 : Nat) : Int) ∧ k68 < a0.n ∧ (∃ (b70 o71 : Nat), a0.b = some ⟨b70, o71, none⟩ ∧ (∃ v73 : ByteArray, w62.cell? ⟨b70, o71 + k68 * 2, none⟩ = some (.string v73) ∧ (∃ v75 : ByteArray, w62.cell? ⟨b70, o71 + k68 * 2 + 1, none⟩ = some (.string v75) ∧ (v73.size + v75.size ≤ 9223372036854775807 ∧ (k45 < a0.n ∧ (∃ v79 : ByteArray, w62.cell? ⟨b70, o71 + k45 * 2, none⟩ = some (.string v79) ∧ (∃ v81 : ByteArray, w62.cell? ⟨b70, o71 + k45 * 2 + 1, none⟩ = some (.string v81) ∧ (v79.size + v81.size ≤ 9223372036854775807 ∧ (((v73 ++ v75) = (v79 ++ v81) → (∀ w66 : World, Ext w62 w66 → (R ((k45 : Nat) : Int) 8 w66))) ∧ (¬ ((v73 ++ v75) = (v79 ++ v81)) → (∃ z86 : Int, z86 = IntKind.wrap .i64 (((k68 : Nat) : Int) + 1) ∧ (∀ w66 : World, Ext w62 w66 → (I59 z86 w66 ∧ μ60 z86 w66 < μ60 l58 w62))))))))))))))) ∧ (¬ (l58 < ((k45 : Nat) : Int)) → (∃ z88 : Int, z88 = IntKind.wrap .i64 (((k45 : Nat) : Int) + 1) ∧ (I2 z88 w62 ∧ μ3 z88 w62 < μ3 l1 w5)))))))))))))))) ∧ (∃ k15 : Nat, l1 = ((k15 : Nat) : Int) ∧ k15 < a0.n ∧ (∃ (b17 o18 : Nat), a0.b = some ⟨b17, o18, none⟩ ∧ (∃ v20 : ByteArray, w5.cell? ⟨b17, o18 + k15 * 2, none⟩ = some (.string v20) ∧ ((0 ≤ k15 ∧ k15 ≤ a0.c) ∧ (∀ w23 : World, Ext w5 w23 → (Calls PP n_ref18_side #[.string v20, (a0.sub 0 k15 2).v] w23 (fun e w27 => ∃ r30 : Bool, e = .returned (.bool r30) ∧ (w27.cell? ⟨b17, o18 + k15 * 2, none⟩ = some (.string v20) ∧ ((r30 = true → ((0 ≤ k15 ∧ k15 ≤ a0.c) ∧ (∃ v34 : ByteArray, w27.cell? ⟨b17, o18 + k15 * 2 + 1, none⟩ = some (.string v34) ∧ (Calls PP n_ref18_side #[.string v34, (a0.sub 0 k15 2).v] w27 (fun e w37 => ∃ r40 : Bool, e = .returned (.bool r40) ∧ (w37.cell? ⟨b17, o18 + k15 * 2, none⟩ = some (.string v20) ∧ (K10 (!r40) w37))))))) ∧ (r30 = false → (K10 true w27))))))))))))) ∧ (¬ (l1 < ((a0.n : Nat) : Int)) → (R (-1) 0 w5)))
set_option maxRecDepth 100000 in
theorem vc_ref18_Check {a0 : Sl} {R : Int → Int → World → Prop} {w : World} (h : VC_ref18_Check a0 R w) : Calls PP n_ref18_Check #[a0.v] w fun e w' => ∃ r0 : Int, ∃ r1 : Int, e = .returned (.tuple #[.int .i64 r0, .int .i64 r1]) ∧ R r0 r1 w' := by
  refine Calls.mono (calls_of_cw (n := 79) (rs := #[.tmp 2, .tmp 3]) (args := [a0.v]) (R := fun v w' => ∃ r0 : Int, ∃ r1 : Int, v = .tuple #[.int .i64 r0, .int .i64 r1] ∧ R r0 r1 w') Try.func11 rfl rfl (Nat.le_of_ble_eq_true rfl) rfl ?_) ?_
  case refine_2 => rintro e w' ⟨v, rfl, hr⟩; obtain ⟨r0, r1, rfl, hr⟩ := hr; exact ⟨r0, r1, rfl, hr⟩
  have hx : Ext w w := Chg.refl _
  unfold VC_ref18_Check at h
  refine cw_seq ?_
  refine cw_region ?_
  refine sl_v rfl (r_as rfl) ?_
  refine sl_v rfl (r_as rfl) ?_
  refine sl_nil ?_
  refine cw_seq ?_
  refine cw_seq ?_
  refine cw_region ?_
  refine sl_v rfl (r_as rfl) ?_
  refine sl_nil ?_
  refine cw_block ?_
  obtain ⟨I2, μ3, hI4, h⟩ := h
  refine cw_loop (σ := Int) (fun s g => (upd (upd (nm g []) 0 (a0.v)) 4 (.int .i64 s))) (fun s w => I2 s w) (fun s w => μ3 s w) (0) _ (kp (kp (kn rfl) rfl) rfl) hI4 ?_
  rintro l1 g6 w5 hi7
  replace h := h l1 w5 hi7
  have hx : Ext w5 w5 := Chg.refl _
  change CW _ PP _ _ _ (upd (upd (nm g6 []) 0 (a0.v)) 4 (.int .i64 l1)) _
  refine cw_seq ?_
  refine cw_seq ?_
  refine cw_region ?_
  refine sl_v rfl (r_mv rfl) ?_
  refine sl_v rfl (r_mv rfl) ?_
  refine sl_v rfl (r_len_l (s := a0) rfl rfl Try.underlying22) ?_
  refine sl_v rfl (r_lss rfl rfl) ?_
  refine sl_nil ?_
  refine bcases (decide (l1 < ((a0.n : Nat) : Int))) (fun hb8 => ?_) (fun hb8 => ?_)
  · replace h := h.1 (of_decide_eq_true hb8)
    refine cw_ct rfl hb8 ?_
    refine cw_skip ?_
    refine cw_seq ?_
    refine cw_block ?_
    refine cw_seq ?_
    obtain ⟨K10, hK11, h⟩ := h
    refine cw_mid (fun f w => ∃ (g : Env) (j9 : Bool), f = (upd (upd (upd (nm g []) 0 (a0.v)) 4 (.int .i64 l1)) 33 (.bool j9)) ∧ K10 j9 w) ?_ (fun _ w12 hM14 => ?_)
    ·
      obtain ⟨k15, rfl, hk16, h⟩ := h
      obtain ⟨b17, o18, hb19, h⟩ := h
      obtain ⟨v20, hc21, h⟩ := h
      obtain ⟨hr22, h⟩ := h
      refine cw_dw (S := fun w' => w'.cell? ⟨b17, o18 + k15 * 2, none⟩ = some (.string v20) ∧ True) mo (fun w23 hd24 => ?_)
      replace hx := hx.tr (Ext.of_drew hd24)
      have hS : w23.cell? ⟨b17, o18 + k15 * 2, none⟩ = some (.string v20) ∧ True := ⟨hx.cell hc21, trivial⟩
      refine dw_t 0 1 rfl (by kernel_rfl) rfl hS (fun _ _ => (r_mv rfl)) ?_
      refine dw_t 1 3 rfl (by kernel_rfl) rfl hS (fun _ _ => (r_mv rfl)) ?_
      refine dw_t 2 7 rfl (by kernel_rfl) rfl hS (fun _ _ => (ia_sl_api_Merge (s := a0) (j := k15) (o' := o18 + k15 * 2) rfl rfl hk16 hb19 rfl)) ?_
      refine dw_t 3 15 rfl (by kernel_rfl) rfl hS (fun _ _ => (fa_api_Merge_0 (o' := o18 + k15 * 2) rfl rfl)) ?_
      refine dw_t 4 31 rfl (by kernel_rfl) rfl hS (fun _ hS => (ld_string rfl hS.1)) ?_
      refine dw_t 5 63 rfl (by kernel_rfl) rfl hS (fun _ _ => (r_mv rfl)) ?_
      refine dw_t 6 127 rfl (by kernel_rfl) rfl hS (fun _ _ => (r_mv rfl)) ?_
      refine dw_t 7 255 rfl (by kernel_rfl) rfl hS (fun _ _ => (sl_sl_api_Merge (s := a0) (l := 0) (h := k15) rfl rfl rfl (fun _ => rfl) (by intro h; cases h) hr22)) ?_
      replace h := h _ hx
      replace hx : Ext w23 w23 := Chg.refl _
      refine dw_l 8 511 rfl (by kernel_rfl) rfl (ok_call c_ref18_side rfl (Calls.mono h (fun e26 w27 hq28 => ?_)))
      clear h
      obtain ⟨r30, he29, h⟩ := hq28
      refine ⟨_, he29, ?_⟩
      replace hx : Ext w27 w27 := Chg.refl _
      obtain ⟨hq31, h⟩ := h
      replace hS : w27.cell? ⟨b17, o18 + k15 * 2, none⟩ = some (.string v20) ∧ True := ⟨hq31, trivial⟩
      refine ⟨hS, ?_⟩
      refine dw_t 9 1023 rfl (by kernel_rfl) rfl hS (fun _ _ => (r_not rfl)) ?_
      refine dw_t 10 2047 rfl (by kernel_rfl) rfl hS (fun _ _ => (r_mv rfl)) ?_
      refine bcases (r30) (fun hb32 => ?_) (fun hb32 => ?_)
      · replace h := h.1 hb32
        refine dw_tg 11 4095 rfl (by kernel_rfl) rfl rfl rfl (nt hb32) hS (fun _ _ => (r_mv rfl)) ?_
        refine dw_tg 12 8191 rfl (by kernel_rfl) rfl rfl rfl (nt hb32) hS (fun _ _ => (r_mv rfl)) ?_
        refine dw_tg 13 16383 rfl (by kernel_rfl) rfl rfl rfl (nt hb32) hS (fun _ _ => (ia_sl_api_Merge (s := a0) (j := k15) (o' := o18 + k15 * 2) rfl rfl hk16 hb19 rfl)) ?_
        refine dw_tg 14 32767 rfl (by kernel_rfl) rfl rfl rfl (nt hb32) hS (fun _ _ => (fa_api_Merge_1 (o' := o18 + k15 * 2 + 1) rfl rfl)) ?_
        refine dw_tg 16 98303 rfl (by kernel_rfl) rfl rfl rfl (nt hb32) hS (fun _ _ => (r_mv rfl)) ?_
        refine dw_tg 17 229375 rfl (by kernel_rfl) rfl rfl rfl (nt hb32) hS (fun _ _ => (r_mv rfl)) ?_
        obtain ⟨hr33, h⟩ := h
        refine dw_tg 18 491519 rfl (by kernel_rfl) rfl rfl rfl (nt hb32) hS (fun _ _ => (sl_sl_api_Merge (s := a0) (l := 0) (h := k15) rfl rfl rfl (fun _ => rfl) (by intro h; cases h) hr33)) ?_
        obtain ⟨v34, hc35, h⟩ := h
        refine dw_lg 15 524287 rfl (by kernel_rfl) rfl rfl rfl (nt hb32) (ok_v (ld_string rfl hc35) ⟨hS, ?_⟩)
        refine dw_lg 19 1048575 rfl (by kernel_rfl) rfl rfl rfl (nt hb32) (ok_call c_ref18_side rfl (Calls.mono h (fun e36 w37 hq38 => ?_)))
        clear h
        obtain ⟨r40, he39, h⟩ := hq38
        refine ⟨_, he39, ?_⟩
        replace hx : Ext w37 w37 := Chg.refl _
        obtain ⟨hq41, h⟩ := h
        replace hS : w37.cell? ⟨b17, o18 + k15 * 2, none⟩ = some (.string v20) ∧ True := ⟨hq41, trivial⟩
        refine ⟨hS, ?_⟩
        refine dw_tg 20 2097151 rfl (by kernel_rfl) rfl rfl rfl (nt hb32) hS (fun _ _ => (r_not rfl)) ?_
        refine dw_t 21 4194303 rfl (by kernel_rfl) rfl hS (fun _ _ => (r_pf rfl (nt hb32) rfl)) ?_
        refine dw_d (by kernel_rfl) ?_
        clear hS
        exact ⟨_, !r40, (kp (kp (kp (kn rfl) rfl) rfl) rfl), h⟩
      · replace h := h.2 hb32
        refine dw_no 11 4095 rfl (by kernel_rfl) rfl rfl rfl (nf hb32) hS ?_
        refine dw_no 12 8191 rfl (by kernel_rfl) rfl rfl rfl (nf hb32) hS ?_
        refine dw_no 13 16383 rfl (by kernel_rfl) rfl rfl rfl (nf hb32) hS ?_
        refine dw_no 14 32767 rfl (by kernel_rfl) rfl rfl rfl (nf hb32) hS ?_
        refine dw_no 15 65535 rfl (by kernel_rfl) rfl rfl rfl (nf hb32) hS ?_
        refine dw_no 16 131071 rfl (by kernel_rfl) rfl rfl rfl (nf hb32) hS ?_
        refine dw_no 17 262143 rfl (by kernel_rfl) rfl rfl rfl (nf hb32) hS ?_
        refine dw_no 18 524287 rfl (by kernel_rfl) rfl rfl rfl (nf hb32) hS ?_
        refine dw_no 19 1048575 rfl (by kernel_rfl) rfl rfl rfl (nf hb32) hS ?_
        refine dw_no 20 2097151 rfl (by kernel_rfl) rfl rfl rfl (nf hb32) hS ?_
        refine dw_t 21 4194303 rfl (by kernel_rfl) rfl hS (fun _ _ => (r_pt rfl (nf hb32) rfl)) ?_
        refine dw_d (by kernel_rfl) ?_
        clear hS
        exact ⟨_, true, (kp (kp (kp (kn rfl) rfl) rfl) rfl), h⟩
    ·
      obtain ⟨g13, j9, rfl, hM14⟩ := hM14
      replace h := hK11 j9 w12 hM14
      have hx : Ext w12 w12 := Chg.refl _
      refine bcases (j9) (fun hb42 => ?_) (fun hb42 => ?_)
      · replace h := h.1 hb42
        refine cw_ct rfl hb42 ?_
        refine cw_seq ?_
        refine cw_region ?_
        refine sl_v rfl (r_mv rfl) ?_
        refine sl_v rfl (r_as rfl) ?_
        refine sl_v rfl (r_as rfl) ?_
        refine sl_nil ?_
        refine cw_ret ?_
        exact rs_2 (rt rfl) (rt rfl) ⟨l1, 7, rfl, h⟩
      · replace h := h.2 hb42
        refine cw_cf rfl hb42 ?_
        refine cw_skip ?_
        refine cw_seq ?_
        refine cw_seq ?_
        refine cw_still mo (by kernel_rfl) (fun w43 hd44 => ?_)
        replace hx := hx.tr (Ext.of_drew hd44)
        refine st_v rfl (r_mv rfl) ?_
        refine st_v rfl (r_mv rfl) ?_
        obtain ⟨k45, rfl, hk46, h⟩ := h
        obtain ⟨b47, o48, hb49, h⟩ := h
        refine st_v rfl (ia_sl_api_Merge (s := a0) (j := k45) (o' := o48 + k45 * 2) rfl rfl hk46 hb49 rfl) ?_
        refine st_v rfl (fa_api_Merge_0 (o' := o48 + k45 * 2) rfl rfl) ?_
        obtain ⟨v50, hc51, h⟩ := h
        refine st_v rfl (ld_string rfl (hx.cell hc51)) ?_
        refine st_v rfl (r_len_s rfl rfl Try.underlying9) ?_
        refine st_v rfl (r_mv rfl) ?_
        refine st_v rfl (r_mv rfl) ?_
        refine st_v rfl (ia_sl_api_Merge (s := a0) (j := k45) (o' := o48 + k45 * 2) rfl rfl hk46 hb49 rfl) ?_
        refine st_v rfl (fa_api_Merge_1 (o' := o48 + k45 * 2 + 1) rfl rfl) ?_
        obtain ⟨v52, hc53, h⟩ := h
        refine st_v rfl (ld_string rfl (hx.cell hc53)) ?_
        refine st_v rfl (r_len_s rfl rfl Try.underlying9) ?_
        obtain ⟨z54, hz54, h⟩ := h
        refine st_v rfl (r_add rfl rfl hz54) ?_
        refine st_v rfl (r_gtr rfl rfl) ?_
        refine st_nil ?_
        refine bcases (decide ((65536 : Int) < z54)) (fun hb55 => ?_) (fun hb55 => ?_)
        · replace h := h.1 (of_decide_eq_true hb55)
          refine cw_ct rfl hb55 ?_
          refine cw_seq ?_
          refine cw_region ?_
          refine sl_v rfl (r_mv rfl) ?_
          refine sl_v rfl (r_as rfl) ?_
          refine sl_v rfl (r_as rfl) ?_
          refine sl_nil ?_
          refine cw_ret ?_
          replace h := h _ hx
          replace hx : Ext w43 w43 := Chg.refl _
          exact rs_2 (rt rfl) (rt rfl) ⟨((k45 : Nat) : Int), 4, rfl, h⟩
        · replace h := h.2 (of_decide_eq_false hb55)
          refine cw_cf rfl hb55 ?_
          refine cw_skip ?_
          refine cw_seq ?_
          refine cw_region ?_
          refine sl_v rfl (r_as rfl) ?_
          refine sl_nil ?_
          refine cw_block ?_
          replace h := h _ hx
          replace hx : Ext w43 w43 := Chg.refl _
          obtain ⟨I59, μ60, hI61, h⟩ := h
          refine cw_loop (σ := Int) (fun s g => (upd (upd (upd (nm g []) 0 (a0.v)) 4 (.int .i64 ((k45 : Nat) : Int))) 5 (.int .i64 s))) (fun s w => I59 s w) (fun s w => μ60 s w) (0) _ (kp (kp (kp (kn rfl) rfl) rfl) rfl) hI61 ?_
          rintro l58 g63 w62 hi64
          replace h := h l58 w62 hi64
          have hx : Ext w62 w62 := Chg.refl _
          change CW _ PP _ _ _ (upd (upd (upd (nm g63 []) 0 (a0.v)) 4 (.int .i64 ((k45 : Nat) : Int))) 5 (.int .i64 l58)) _
          refine cw_seq ?_
          refine cw_seq ?_
          refine cw_region ?_
          refine sl_v rfl (r_mv rfl) ?_
          refine sl_v rfl (r_mv rfl) ?_
          refine sl_v rfl (r_lss rfl rfl) ?_
          refine sl_nil ?_
          refine bcases (decide (l58 < ((k45 : Nat) : Int))) (fun hb65 => ?_) (fun hb65 => ?_)
          · replace h := h.1 (of_decide_eq_true hb65)
            refine cw_ct rfl hb65 ?_
            refine cw_skip ?_
            refine cw_seq ?_
            refine cw_block ?_
            refine cw_seq ?_
            refine cw_still mo (by kernel_rfl) (fun w66 hd67 => ?_)
            replace hx := hx.tr (Ext.of_drew hd67)
            refine st_v rfl (r_mv rfl) ?_
            refine st_v rfl (r_mv rfl) ?_
            obtain ⟨k68, rfl, hk69, h⟩ := h
            obtain ⟨b70, o71, hb72, h⟩ := h
            refine st_v rfl (ia_sl_api_Merge (s := a0) (j := k68) (o' := o71 + k68 * 2) rfl rfl hk69 hb72 rfl) ?_
            refine st_v rfl (fa_api_Merge_0 (o' := o71 + k68 * 2) rfl rfl) ?_
            obtain ⟨v73, hc74, h⟩ := h
            refine st_v rfl (ld_string rfl (hx.cell hc74)) ?_
            refine st_v rfl (r_mv rfl) ?_
            refine st_v rfl (r_mv rfl) ?_
            refine st_v rfl (ia_sl_api_Merge (s := a0) (j := k68) (o' := o71 + k68 * 2) rfl rfl hk69 hb72 rfl) ?_
            refine st_v rfl (fa_api_Merge_1 (o' := o71 + k68 * 2 + 1) rfl rfl) ?_
            obtain ⟨v75, hc76, h⟩ := h
            refine st_v rfl (ld_string rfl (hx.cell hc76)) ?_
            obtain ⟨hs77, h⟩ := h
            refine st_v rfl (s_cat rfl rfl hs77) ?_
            refine st_v rfl (r_mv rfl) ?_
            refine st_v rfl (r_mv rfl) ?_
            obtain ⟨hk78, h⟩ := h
            refine st_v rfl (ia_sl_api_Merge (s := a0) (j := k45) (o' := o71 + k45 * 2) rfl rfl hk78 hb72 rfl) ?_
            refine st_v rfl (fa_api_Merge_0 (o' := o71 + k45 * 2) rfl rfl) ?_
            obtain ⟨v79, hc80, h⟩ := h
            refine st_v rfl (ld_string rfl (hx.cell hc80)) ?_
            refine st_v rfl (r_mv rfl) ?_
            refine st_v rfl (r_mv rfl) ?_
            refine st_v rfl (ia_sl_api_Merge (s := a0) (j := k45) (o' := o71 + k45 * 2) rfl rfl hk78 hb72 rfl) ?_
            refine st_v rfl (fa_api_Merge_1 (o' := o71 + k45 * 2 + 1) rfl rfl) ?_
            obtain ⟨v81, hc82, h⟩ := h
            refine st_v rfl (ld_string rfl (hx.cell hc82)) ?_
            obtain ⟨hs83, h⟩ := h
            refine st_v rfl (s_cat rfl rfl hs83) ?_
            refine st_v rfl (s_eql rfl rfl) ?_
            refine st_nil ?_
            refine bcases (decide ((v73 ++ v75) = (v79 ++ v81))) (fun hb84 => ?_) (fun hb84 => ?_)
            · replace h := h.1 (of_decide_eq_true hb84)
              refine cw_ct rfl hb84 ?_
              refine cw_seq ?_
              refine cw_region ?_
              refine sl_v rfl (r_mv rfl) ?_
              refine sl_v rfl (r_as rfl) ?_
              refine sl_v rfl (r_as rfl) ?_
              refine sl_nil ?_
              refine cw_ret ?_
              replace h := h _ hx
              replace hx : Ext w66 w66 := Chg.refl _
              exact rs_2 (rt rfl) (rt rfl) ⟨((k45 : Nat) : Int), 8, rfl, h⟩
            · replace h := h.2 (of_decide_eq_false hb84)
              refine cw_cf rfl hb84 ?_
              refine cw_skip ?_
              refine cw_region ?_
              refine sl_v rfl (r_mv rfl) ?_
              obtain ⟨z86, hz86, h⟩ := h
              refine sl_v rfl (r_add rfl rfl hz86) ?_
              refine sl_v rfl (r_as rfl) ?_
              refine sl_nil ?_
              replace h := h _ hx
              replace hx : Ext w66 w66 := Chg.refl _
              exact ⟨(z86), _, (kp (kp (kp (kn rfl) rfl) rfl) rfl), h.1, h.2⟩
          · replace h := h.2 (of_decide_eq_false hb65)
            refine cw_cf rfl hb65 ?_
            refine cw_exit ?_
            refine cw_region ?_
            refine sl_v rfl (r_mv rfl) ?_
            obtain ⟨z88, hz88, h⟩ := h
            refine sl_v rfl (r_add rfl rfl hz88) ?_
            refine sl_v rfl (r_as rfl) ?_
            refine sl_nil ?_
            exact ⟨(z88), _, (kp (kp (kn rfl) rfl) rfl), h.1, h.2⟩
  · replace h := h.2 (of_decide_eq_false hb8)
    refine cw_cf rfl hb8 ?_
    refine cw_exit ?_
    refine cw_seq ?_
    refine cw_region ?_
    refine sl_v rfl (r_as rfl) ?_
    refine sl_v rfl (r_as rfl) ?_
    refine sl_nil ?_
    refine cw_ret ?_
    exact rs_2 (rt rfl) (rt rfl) ⟨(-1), 0, rfl, h⟩

def VC_vocab_Vocab_Has (a0 : Option Addr) (a1 : ByteArray) (R : Bool → World → Prop) (w : World) : Prop :=
  Calls PP n_vocab_Vocab_Depth #[.pointer a0, .string a1] w (fun e w2 => ∃ r5 : Int, e = .returned (.int .i64 r5) ∧ (R (decide ((0 : Int) ≤ r5)) w2))
set_option maxRecDepth 100000 in
theorem vc_vocab_Vocab_Has {a0 : Option Addr} {a1 : ByteArray} {R : Bool → World → Prop} {w : World} (h : VC_vocab_Vocab_Has a0 a1 R w) : Calls PP n_vocab_Vocab_Has #[.pointer a0, .string a1] w fun e w' => ∃ r0 : Bool, e = .returned (.bool r0) ∧ R r0 w' := by
  refine Calls.mono (calls_of_cw (n := 9) (rs := #[.tmp 4]) (args := [.pointer a0, .string a1]) (R := fun v w' => ∃ r0 : Bool, v = .bool r0 ∧ R r0 w') Try.func12 rfl rfl (Nat.le_of_ble_eq_true rfl) rfl ?_) ?_
  case refine_2 => rintro e w' ⟨v, rfl, hr⟩; obtain ⟨r0, rfl, hr⟩ := hr; exact ⟨r0, rfl, hr⟩
  have hx : Ext w w := Chg.refl _
  unfold VC_vocab_Vocab_Has at h
  refine cw_seq ?_
  refine cw_region ?_
  refine sl_v rfl (r_as rfl) ?_
  refine sl_nil ?_
  refine cw_seq ?_
  refine cw_region ?_
  refine sl_v rfl (r_mv rfl) ?_
  refine sl_v rfl (r_mv rfl) ?_
  refine sl_op rfl (ok_call c_vocab_Vocab_Depth rfl (Calls.mono h (fun e1 w2 hq3 => ?_)))
  clear h
  obtain ⟨r5, he4, h⟩ := hq3
  refine ⟨_, he4, ?_⟩
  replace hx : Ext w2 w2 := Chg.refl _
  refine sl_v rfl (r_geq rfl rfl) ?_
  refine sl_v rfl (r_as rfl) ?_
  refine sl_nil ?_
  refine cw_ret ?_
  exact rs_1 (rt rfl) ⟨decide ((0 : Int) ≤ r5), rfl, h⟩

def VC_ref21_Has (a0 : Sl) (a1 : ByteArray) (R : Bool → World → Prop) (w : World) : Prop :=
  (((a1.size : Nat) : Int) = (1 : Int) → (R true w)) ∧ (¬ (((a1.size : Nat) : Int) = (1 : Int)) → (Calls PP n_ref21_made #[a0.v, .string a1] w (fun e w3 => ∃ r6 : Int, e = .returned (.int .i64 r6) ∧ (R (decide ((0 : Int) ≤ r6)) w3))))
set_option maxRecDepth 100000 in
theorem vc_ref21_Has {a0 : Sl} {a1 : ByteArray} {R : Bool → World → Prop} {w : World} (h : VC_ref21_Has a0 a1 R w) : Calls PP n_ref21_Has #[a0.v, .string a1] w fun e w' => ∃ r0 : Bool, e = .returned (.bool r0) ∧ R r0 w' := by
  refine Calls.mono (calls_of_cw (n := 14) (rs := #[.tmp 4]) (args := [a0.v, .string a1]) (R := fun v w' => ∃ r0 : Bool, v = .bool r0 ∧ R r0 w') Try.func13 rfl rfl (Nat.le_of_ble_eq_true rfl) rfl ?_) ?_
  case refine_2 => rintro e w' ⟨v, rfl, hr⟩; obtain ⟨r0, rfl, hr⟩ := hr; exact ⟨r0, rfl, hr⟩
  have hx : Ext w w := Chg.refl _
  unfold VC_ref21_Has at h
  refine cw_seq ?_
  refine cw_region ?_
  refine sl_v rfl (r_as rfl) ?_
  refine sl_nil ?_
  refine cw_seq ?_
  refine cw_region ?_
  refine sl_v rfl (r_mv rfl) ?_
  refine sl_v rfl (r_len_s rfl rfl Try.underlying9) ?_
  refine sl_v rfl (r_eql rfl rfl) ?_
  refine sl_v rfl (r_mv rfl) ?_
  refine bcases (decide (((a1.size : Nat) : Int) = (1 : Int))) (fun hb1 => ?_) (fun hb1 => ?_)
  · replace h := h.1 (of_decide_eq_true hb1)
    refine sl_no rfl rfl rfl hb1 ?_
    refine sl_no rfl rfl rfl hb1 ?_
    refine sl_no rfl rfl rfl hb1 ?_
    refine sl_no rfl rfl rfl hb1 ?_
    refine sl_v rfl (r_pt rfl hb1 rfl) ?_
    refine sl_v rfl (r_as rfl) ?_
    refine sl_nil ?_
    refine cw_ret ?_
    exact rs_1 (rt rfl) ⟨true, rfl, h⟩
  · replace h := h.2 (of_decide_eq_false hb1)
    refine sl_vg rfl rfl rfl hb1 (r_mv rfl) ?_
    refine sl_vg rfl rfl rfl hb1 (r_mv rfl) ?_
    refine sl_g rfl rfl rfl hb1 (ok_call c_ref21_made rfl (Calls.mono h (fun e2 w3 hq4 => ?_)))
    clear h
    obtain ⟨r6, he5, h⟩ := hq4
    refine ⟨_, he5, ?_⟩
    replace hx : Ext w3 w3 := Chg.refl _
    refine sl_vg rfl rfl rfl hb1 (r_geq rfl rfl) ?_
    refine sl_v rfl (r_pf rfl hb1 rfl) ?_
    refine sl_v rfl (r_as rfl) ?_
    refine sl_nil ?_
    refine cw_ret ?_
    exact rs_1 (rt rfl) ⟨decide ((0 : Int) ≤ r6), rfl, h⟩

def VC_vocab_Vocab_Depth (a0 : Option Addr) (a1 : ByteArray) (R : Int → World → Prop) (w : World) : Prop :=
  (a0 = none → (R (-1) w)) ∧ (¬ (a0 = none) → (∃ (b2 o3 : Nat), a0 = some ⟨b2, o3, none⟩ ∧ (∃ v4 : Option Nat, w.cell? ⟨b2, o3, none⟩ = some (.map v4) ∧ (∃ es6 : List (ByteArray × Int), Mp strV intV w v4 es6 ∧ (∃ z8 : Int, z8 = (mget a1 es6).getD 0 ∧ ((((mget a1 es6).isSome) = true → (R z8 w)) ∧ (((mget a1 es6).isSome) = false → (R (-1) w))))))))
set_option maxRecDepth 100000 in
theorem vc_vocab_Vocab_Depth {a0 : Option Addr} {a1 : ByteArray} {R : Int → World → Prop} {w : World} (h : VC_vocab_Vocab_Depth a0 a1 R w) : Calls PP n_vocab_Vocab_Depth #[.pointer a0, .string a1] w fun e w' => ∃ r0 : Int, e = .returned (.int .i64 r0) ∧ R r0 w' := by
  refine Calls.mono (calls_of_cw (n := 21) (rs := #[.tmp 4]) (args := [.pointer a0, .string a1]) (R := fun v w' => ∃ r0 : Int, v = .int .i64 r0 ∧ R r0 w') Try.func14 rfl rfl (Nat.le_of_ble_eq_true rfl) rfl ?_) ?_
  case refine_2 => rintro e w' ⟨v, rfl, hr⟩; obtain ⟨r0, rfl, hr⟩ := hr; exact ⟨r0, rfl, hr⟩
  have hx : Ext w w := Chg.refl _
  unfold VC_vocab_Vocab_Depth at h
  refine cw_seq ?_
  refine cw_region ?_
  refine sl_v rfl (r_as rfl) ?_
  refine sl_nil ?_
  refine cw_seq ?_
  refine cw_seq ?_
  refine cw_region ?_
  refine sl_v rfl (r_mv rfl) ?_
  refine sl_v rfl (p_eqn rfl rfl Try.underlying25) ?_
  refine sl_nil ?_
  refine bcases (decide (a0 = none)) (fun hb1 => ?_) (fun hb1 => ?_)
  · replace h := h.1 (of_decide_eq_true hb1)
    refine cw_ct rfl hb1 ?_
    refine cw_seq ?_
    refine cw_region ?_
    refine sl_v rfl (r_as rfl) ?_
    refine sl_nil ?_
    refine cw_ret ?_
    exact rs_1 (rt rfl) ⟨(-1), rfl, h⟩
  · replace h := h.2 (of_decide_eq_false hb1)
    refine cw_cf rfl hb1 ?_
    refine cw_skip ?_
    refine cw_seq ?_
    refine cw_region ?_
    refine sl_v rfl (r_mv rfl) ?_
    obtain ⟨b2, o3, rfl, h⟩ := h
    refine sl_v rfl (r_nc rfl) ?_
    refine sl_v rfl (fa_vocab_Vocab_0 (o' := o3) rfl rfl) ?_
    obtain ⟨v4, hc5, h⟩ := h
    refine sl_v rfl (ld_map_string_int rfl hc5) ?_
    refine sl_v rfl (r_mv rfl) ?_
    obtain ⟨es6, hm7, h⟩ := h
    obtain ⟨z8, hz8, h⟩ := h
    refine sl_v rfl (RV.cast (v' := .tuple #[.int .i64 z8, .bool ((mget a1 es6).isSome)]) (by subst hz8; rfl) (lko_map_string_int (a := a1) rfl rfl hm7)) ?_
    refine sl_v rfl (r_mv rfl) ?_
    refine sl_v rfl (r_ex rfl rfl) ?_
    refine sl_v rfl (r_ex rfl rfl) ?_
    refine sl_v rfl (r_as rfl) ?_
    refine sl_v rfl (r_as rfl) ?_
    refine sl_nil ?_
    refine cw_seq ?_
    refine cw_seq ?_
    refine cw_region ?_
    refine sl_v rfl (r_mv rfl) ?_
    refine sl_v rfl (r_not rfl) ?_
    refine sl_nil ?_
    refine bcases ((mget a1 es6).isSome) (fun hb9 => ?_) (fun hb9 => ?_)
    · replace h := h.1 hb9
      refine cw_cf rfl (nt hb9) ?_
      refine cw_skip ?_
      refine cw_seq ?_
      refine cw_region ?_
      refine sl_v rfl (r_mv rfl) ?_
      refine sl_v rfl (r_as rfl) ?_
      refine sl_nil ?_
      refine cw_ret ?_
      exact rs_1 (rt rfl) ⟨z8, rfl, h⟩
    · replace h := h.2 hb9
      refine cw_ct rfl (nf hb9) ?_
      refine cw_seq ?_
      refine cw_region ?_
      refine sl_v rfl (r_as rfl) ?_
      refine sl_nil ?_
      refine cw_ret ?_
      exact rs_1 (rt rfl) ⟨(-1), rfl, h⟩

def VC_ref21_Depth (a0 : Sl) (a1 : ByteArray) (R : Int → World → Prop) (w : World) : Prop :=
  (((a1.size : Nat) : Int) = (1 : Int) → (R 0 w)) ∧ (¬ (((a1.size : Nat) : Int) = (1 : Int)) → (Calls PP n_ref21_made #[a0.v, .string a1] w (fun e w3 => ∃ r6 : Int, e = .returned (.int .i64 r6) ∧ ((r6 < (0 : Int) → (R (-1) w3)) ∧ (¬ (r6 < (0 : Int)) → (∃ k8 : Nat, r6 = ((k8 : Nat) : Int) ∧ ((0 ≤ k8 ∧ k8 ≤ a0.c) ∧ (k8 < a0.n ∧ (∃ (b11 o12 : Nat), a0.b = some ⟨b11, o12, none⟩ ∧ (∃ v14 : ByteArray, w3.cell? ⟨b11, o12 + k8 * 2, none⟩ = some (.string v14) ∧ ((0 ≤ k8 ∧ k8 ≤ a0.c) ∧ (∃ v17 : ByteArray, w3.cell? ⟨b11, o12 + k8 * 2 + 1, none⟩ = some (.string v17) ∧ (∀ w19 : World, Ext w3 w19 → (Calls PP n_ref21_Depth #[(a0.sub 0 k8 2).v, .string v14] w19 (fun e w23 => ∃ r26 : Int, e = .returned (.int .i64 r26) ∧ (w23.cell? ⟨b11, o12 + k8 * 2, none⟩ = some (.string v14) ∧ (w23.cell? ⟨b11, o12 + k8 * 2 + 1, none⟩ = some (.string v17) ∧ (Calls PP n_ref21_Depth #[(a0.sub 0 k8 2).v, .string v17] w23 (fun e w30 => ∃ r33 : Int, e = .returned (.int .i64 r33) ∧ (w30.cell? ⟨b11, o12 + k8 * 2, none⟩ = some (.string v14) ∧ (w30.cell? ⟨b11, o12 + k8 * 2 + 1, none⟩ = some (.string v17) ∧ (∃ z36 : Int, z36 = IntKind.wrap .i64 (1 + (max r26 r33)) ∧ (R z36 w30)))))))))))))))))))))))
set_option maxRecDepth 100000 in
theorem vc_ref21_Depth {a0 : Sl} {a1 : ByteArray} {R : Int → World → Prop} {w : World} (h : VC_ref21_Depth a0 a1 R w) : Calls PP n_ref21_Depth #[a0.v, .string a1] w fun e w' => ∃ r0 : Int, e = .returned (.int .i64 r0) ∧ R r0 w' := by
  refine Calls.mono (calls_of_cw (n := 34) (rs := #[.tmp 4]) (args := [a0.v, .string a1]) (R := fun v w' => ∃ r0 : Int, v = .int .i64 r0 ∧ R r0 w') Try.func15 rfl rfl (Nat.le_of_ble_eq_true rfl) rfl ?_) ?_
  case refine_2 => rintro e w' ⟨v, rfl, hr⟩; obtain ⟨r0, rfl, hr⟩ := hr; exact ⟨r0, rfl, hr⟩
  have hx : Ext w w := Chg.refl _
  unfold VC_ref21_Depth at h
  refine cw_seq ?_
  refine cw_region ?_
  refine sl_v rfl (r_as rfl) ?_
  refine sl_nil ?_
  refine cw_seq ?_
  refine cw_seq ?_
  refine cw_region ?_
  refine sl_v rfl (r_mv rfl) ?_
  refine sl_v rfl (r_len_s rfl rfl Try.underlying9) ?_
  refine sl_v rfl (r_eql rfl rfl) ?_
  refine sl_nil ?_
  refine bcases (decide (((a1.size : Nat) : Int) = (1 : Int))) (fun hb1 => ?_) (fun hb1 => ?_)
  · replace h := h.1 (of_decide_eq_true hb1)
    refine cw_ct rfl hb1 ?_
    refine cw_seq ?_
    refine cw_region ?_
    refine sl_v rfl (r_as rfl) ?_
    refine sl_nil ?_
    refine cw_ret ?_
    exact rs_1 (rt rfl) ⟨0, rfl, h⟩
  · replace h := h.2 (of_decide_eq_false hb1)
    refine cw_cf rfl hb1 ?_
    refine cw_skip ?_
    refine cw_seq ?_
    refine cw_region ?_
    refine sl_v rfl (r_mv rfl) ?_
    refine sl_v rfl (r_mv rfl) ?_
    refine sl_op rfl (ok_call c_ref21_made rfl (Calls.mono h (fun e2 w3 hq4 => ?_)))
    clear h
    obtain ⟨r6, he5, h⟩ := hq4
    refine ⟨_, he5, ?_⟩
    replace hx : Ext w3 w3 := Chg.refl _
    refine sl_v rfl (r_as rfl) ?_
    refine sl_nil ?_
    refine cw_seq ?_
    refine cw_seq ?_
    refine cw_region ?_
    refine sl_v rfl (r_mv rfl) ?_
    refine sl_v rfl (r_lss rfl rfl) ?_
    refine sl_nil ?_
    refine bcases (decide (r6 < (0 : Int))) (fun hb7 => ?_) (fun hb7 => ?_)
    · replace h := h.1 (of_decide_eq_true hb7)
      refine cw_ct rfl hb7 ?_
      refine cw_seq ?_
      refine cw_region ?_
      refine sl_v rfl (r_as rfl) ?_
      refine sl_nil ?_
      refine cw_ret ?_
      exact rs_1 (rt rfl) ⟨(-1), rfl, h⟩
    · replace h := h.2 (of_decide_eq_false hb7)
      refine cw_cf rfl hb7 ?_
      refine cw_skip ?_
      refine cw_seq ?_
      obtain ⟨k8, rfl, h⟩ := h
      obtain ⟨hr9, h⟩ := h
      obtain ⟨hk10, h⟩ := h
      obtain ⟨b11, o12, hb13, h⟩ := h
      obtain ⟨v14, hc15, h⟩ := h
      obtain ⟨hr16, h⟩ := h
      obtain ⟨v17, hc18, h⟩ := h
      refine cw_dw (S := fun w' => w'.cell? ⟨b11, o12 + k8 * 2, none⟩ = some (.string v14) ∧ w'.cell? ⟨b11, o12 + k8 * 2 + 1, none⟩ = some (.string v17) ∧ True) mo (fun w19 hd20 => ?_)
      replace hx := hx.tr (Ext.of_drew hd20)
      have hS : w19.cell? ⟨b11, o12 + k8 * 2, none⟩ = some (.string v14) ∧ w19.cell? ⟨b11, o12 + k8 * 2 + 1, none⟩ = some (.string v17) ∧ True := ⟨hx.cell hc15, hx.cell hc18, trivial⟩
      refine dw_t 0 1 rfl (by kernel_rfl) rfl hS (fun _ _ => (r_mv rfl)) ?_
      refine dw_t 1 3 rfl (by kernel_rfl) rfl hS (fun _ _ => (r_mv rfl)) ?_
      refine dw_t 2 7 rfl (by kernel_rfl) rfl hS (fun _ _ => (sl_sl_api_Merge (s := a0) (l := 0) (h := k8) rfl rfl rfl (fun _ => rfl) (by intro h; cases h) hr9)) ?_
      refine dw_t 3 15 rfl (by kernel_rfl) rfl hS (fun _ _ => (r_mv rfl)) ?_
      refine dw_t 4 31 rfl (by kernel_rfl) rfl hS (fun _ _ => (r_mv rfl)) ?_
      refine dw_t 5 63 rfl (by kernel_rfl) rfl hS (fun _ _ => (ia_sl_api_Merge (s := a0) (j := k8) (o' := o12 + k8 * 2) rfl rfl hk10 hb13 rfl)) ?_
      refine dw_t 6 127 rfl (by kernel_rfl) rfl hS (fun _ _ => (fa_api_Merge_0 (o' := o12 + k8 * 2) rfl rfl)) ?_
      refine dw_t 7 255 rfl (by kernel_rfl) rfl hS (fun _ hS => (ld_string rfl hS.1)) ?_
      refine dw_t 9 767 rfl (by kernel_rfl) rfl hS (fun _ _ => (r_mv rfl)) ?_
      refine dw_t 10 1791 rfl (by kernel_rfl) rfl hS (fun _ _ => (r_mv rfl)) ?_
      refine dw_t 11 3839 rfl (by kernel_rfl) rfl hS (fun _ _ => (sl_sl_api_Merge (s := a0) (l := 0) (h := k8) rfl rfl rfl (fun _ => rfl) (by intro h; cases h) hr16)) ?_
      refine dw_t 12 7935 rfl (by kernel_rfl) rfl hS (fun _ _ => (r_mv rfl)) ?_
      refine dw_t 13 16127 rfl (by kernel_rfl) rfl hS (fun _ _ => (r_mv rfl)) ?_
      refine dw_t 14 32511 rfl (by kernel_rfl) rfl hS (fun _ _ => (ia_sl_api_Merge (s := a0) (j := k8) (o' := o12 + k8 * 2) rfl rfl hk10 hb13 rfl)) ?_
      refine dw_t 15 65279 rfl (by kernel_rfl) rfl hS (fun _ _ => (fa_api_Merge_1 (o' := o12 + k8 * 2 + 1) rfl rfl)) ?_
      refine dw_t 16 130815 rfl (by kernel_rfl) rfl hS (fun _ hS => (ld_string rfl hS.2.1)) ?_
      replace h := h _ hx
      replace hx : Ext w19 w19 := Chg.refl _
      refine dw_l 8 131071 rfl (by kernel_rfl) rfl (ok_call c_ref21_Depth rfl (Calls.mono h (fun e22 w23 hq24 => ?_)))
      clear h
      obtain ⟨r26, he25, h⟩ := hq24
      refine ⟨_, he25, ?_⟩
      replace hx : Ext w23 w23 := Chg.refl _
      obtain ⟨hq27, h⟩ := h
      obtain ⟨hq28, h⟩ := h
      replace hS : w23.cell? ⟨b11, o12 + k8 * 2, none⟩ = some (.string v14) ∧ w23.cell? ⟨b11, o12 + k8 * 2 + 1, none⟩ = some (.string v17) ∧ True := ⟨hq27, hq28, trivial⟩
      refine ⟨hS, ?_⟩
      refine dw_l 17 262143 rfl (by kernel_rfl) rfl (ok_call c_ref21_Depth rfl (Calls.mono h (fun e29 w30 hq31 => ?_)))
      clear h
      obtain ⟨r33, he32, h⟩ := hq31
      refine ⟨_, he32, ?_⟩
      replace hx : Ext w30 w30 := Chg.refl _
      obtain ⟨hq34, h⟩ := h
      obtain ⟨hq35, h⟩ := h
      replace hS : w30.cell? ⟨b11, o12 + k8 * 2, none⟩ = some (.string v14) ∧ w30.cell? ⟨b11, o12 + k8 * 2 + 1, none⟩ = some (.string v17) ∧ True := ⟨hq34, hq35, trivial⟩
      refine ⟨hS, ?_⟩
      refine dw_t 18 524287 rfl (by kernel_rfl) rfl hS (fun _ _ => (r_max rfl rfl)) ?_
      obtain ⟨z36, hz36, h⟩ := h
      refine dw_t 19 1048575 rfl (by kernel_rfl) rfl hS (fun _ _ => (r_add rfl rfl hz36)) ?_
      refine dw_t 20 2097151 rfl (by kernel_rfl) rfl hS (fun _ _ => (r_as rfl)) ?_
      refine dw_d (by kernel_rfl) ?_
      clear hS
      refine cw_ret ?_
      exact rs_1 (rt rfl) ⟨z36, rfl, h⟩

def VC_vocab_Vocab_Uses (a0 : Option Addr) (a1 : ByteArray) (R : Int → World → Prop) (w : World) : Prop :=
  (a0 = none → (R 0 w)) ∧ (¬ (a0 = none) → (∃ (b2 o3 : Nat), a0 = some ⟨b2, o3, none⟩ ∧ (∃ v4 : Option Nat, w.cell? ⟨b2, o3 + 1, none⟩ = some (.map v4) ∧ (∃ es6 : List (ByteArray × Int), Mp strV intV w v4 es6 ∧ (∃ z8 : Int, z8 = (mget a1 es6).getD 0 ∧ (R z8 w))))))
set_option maxRecDepth 100000 in
theorem vc_vocab_Vocab_Uses {a0 : Option Addr} {a1 : ByteArray} {R : Int → World → Prop} {w : World} (h : VC_vocab_Vocab_Uses a0 a1 R w) : Calls PP n_vocab_Vocab_Uses #[.pointer a0, .string a1] w fun e w' => ∃ r0 : Int, e = .returned (.int .i64 r0) ∧ R r0 w' := by
  refine Calls.mono (calls_of_cw (n := 13) (rs := #[.tmp 4]) (args := [.pointer a0, .string a1]) (R := fun v w' => ∃ r0 : Int, v = .int .i64 r0 ∧ R r0 w') Try.func16 rfl rfl (Nat.le_of_ble_eq_true rfl) rfl ?_) ?_
  case refine_2 => rintro e w' ⟨v, rfl, hr⟩; obtain ⟨r0, rfl, hr⟩ := hr; exact ⟨r0, rfl, hr⟩
  have hx : Ext w w := Chg.refl _
  unfold VC_vocab_Vocab_Uses at h
  refine cw_seq ?_
  refine cw_region ?_
  refine sl_v rfl (r_as rfl) ?_
  refine sl_nil ?_
  refine cw_seq ?_
  refine cw_seq ?_
  refine cw_region ?_
  refine sl_v rfl (r_mv rfl) ?_
  refine sl_v rfl (p_eqn rfl rfl Try.underlying25) ?_
  refine sl_nil ?_
  refine bcases (decide (a0 = none)) (fun hb1 => ?_) (fun hb1 => ?_)
  · replace h := h.1 (of_decide_eq_true hb1)
    refine cw_ct rfl hb1 ?_
    refine cw_seq ?_
    refine cw_region ?_
    refine sl_v rfl (r_as rfl) ?_
    refine sl_nil ?_
    refine cw_ret ?_
    exact rs_1 (rt rfl) ⟨0, rfl, h⟩
  · replace h := h.2 (of_decide_eq_false hb1)
    refine cw_cf rfl hb1 ?_
    refine cw_skip ?_
    refine cw_seq ?_
    refine cw_region ?_
    refine sl_v rfl (r_mv rfl) ?_
    obtain ⟨b2, o3, rfl, h⟩ := h
    refine sl_v rfl (r_nc rfl) ?_
    refine sl_v rfl (fa_vocab_Vocab_1 (o' := o3 + 1) rfl rfl) ?_
    obtain ⟨v4, hc5, h⟩ := h
    refine sl_v rfl (ld_map_string_int rfl hc5) ?_
    refine sl_v rfl (r_mv rfl) ?_
    obtain ⟨es6, hm7, h⟩ := h
    obtain ⟨z8, hz8, h⟩ := h
    refine sl_v rfl (RV.cast (v' := .int .i64 z8) (by subst hz8; rfl) (lk_map_string_int (a := a1) rfl rfl hm7)) ?_
    refine sl_v rfl (r_as rfl) ?_
    refine sl_nil ?_
    refine cw_ret ?_
    exact rs_1 (rt rfl) ⟨z8, rfl, h⟩

def VC_ref21_Uses (a0 : Sl) (a1 : ByteArray) (R : Int → World → Prop) (w : World) : Prop :=
  ∃ (I3 : Int → Int → World → Prop) (μ4 : Int → Int → World → Nat), I3 0 0 w ∧ ∀ (l1 : Int) (l2 : Int) (w6 : World), I3 l1 l2 w6 → ((l2 < ((a0.n : Nat) : Int) → (∃ K11 : Int → World → Prop, (∀ (j10 : Int) (w13 : World), K11 j10 w13 → (∃ k25 : Nat, l2 = ((k25 : Nat) : Int) ∧ k25 < a0.n ∧ (∃ (b27 o28 : Nat), a0.b = some ⟨b27, o28, none⟩ ∧ (∃ v30 : ByteArray, w13.cell? ⟨b27, o28 + k25 * 2 + 1, none⟩ = some (.string v30) ∧ ((v30 = a1 → (∃ z33 : Int, z33 = IntKind.wrap .i64 (j10 + 1) ∧ (∃ z34 : Int, z34 = IntKind.wrap .i64 (((k25 : Nat) : Int) + 1) ∧ (I3 z33 z34 w13 ∧ μ4 z33 z34 w13 < μ4 l1 l2 w6)))) ∧ (¬ (v30 = a1) → (∃ z35 : Int, z35 = IntKind.wrap .i64 (((k25 : Nat) : Int) + 1) ∧ (I3 j10 z35 w13 ∧ μ4 j10 z35 w13 < μ4 l1 l2 w6)))))))) ∧ (∃ k16 : Nat, l2 = ((k16 : Nat) : Int) ∧ k16 < a0.n ∧ (∃ (b18 o19 : Nat), a0.b = some ⟨b18, o19, none⟩ ∧ (∃ v21 : ByteArray, w6.cell? ⟨b18, o19 + k16 * 2, none⟩ = some (.string v21) ∧ ((v21 = a1 → (∃ z24 : Int, z24 = IntKind.wrap .i64 (l1 + 1) ∧ (K11 z24 w6))) ∧ (¬ (v21 = a1) → (K11 l1 w6)))))))) ∧ (¬ (l2 < ((a0.n : Nat) : Int)) → (R l1 w6)))
set_option maxRecDepth 100000 in
theorem vc_ref21_Uses {a0 : Sl} {a1 : ByteArray} {R : Int → World → Prop} {w : World} (h : VC_ref21_Uses a0 a1 R w) : Calls PP n_ref21_Uses #[a0.v, .string a1] w fun e w' => ∃ r0 : Int, e = .returned (.int .i64 r0) ∧ R r0 w' := by
  refine Calls.mono (calls_of_cw (n := 32) (rs := #[.tmp 4]) (args := [a0.v, .string a1]) (R := fun v w' => ∃ r0 : Int, v = .int .i64 r0 ∧ R r0 w') Try.func17 rfl rfl (Nat.le_of_ble_eq_true rfl) rfl ?_) ?_
  case refine_2 => rintro e w' ⟨v, rfl, hr⟩; obtain ⟨r0, rfl, hr⟩ := hr; exact ⟨r0, rfl, hr⟩
  have hx : Ext w w := Chg.refl _
  unfold VC_ref21_Uses at h
  refine cw_seq ?_
  refine cw_region ?_
  refine sl_v rfl (r_as rfl) ?_
  refine sl_nil ?_
  refine cw_seq ?_
  refine cw_region ?_
  refine sl_v rfl (r_as rfl) ?_
  refine sl_nil ?_
  refine cw_seq ?_
  refine cw_seq ?_
  refine cw_region ?_
  refine sl_v rfl (r_as rfl) ?_
  refine sl_nil ?_
  refine cw_block ?_
  obtain ⟨I3, μ4, hI5, h⟩ := h
  refine cw_loop (σ := Int × Int) (fun s g => (upd (upd (upd (upd (nm g []) 0 (a0.v)) 1 (.string a1)) 5 (.int .i64 s.1)) 6 (.int .i64 s.2))) (fun s w => I3 s.1 s.2 w) (fun s w => μ4 s.1 s.2 w) (0, 0) _ (kp (kp (kp (kp (kn rfl) rfl) rfl) rfl) rfl) hI5 ?_
  rintro ⟨l1, l2⟩ g7 w6 hi8
  replace h := h l1 l2 w6 hi8
  have hx : Ext w6 w6 := Chg.refl _
  change CW _ PP _ _ _ (upd (upd (upd (upd (nm g7 []) 0 (a0.v)) 1 (.string a1)) 5 (.int .i64 l1)) 6 (.int .i64 l2)) _
  refine cw_seq ?_
  refine cw_seq ?_
  refine cw_region ?_
  refine sl_v rfl (r_mv rfl) ?_
  refine sl_v rfl (r_mv rfl) ?_
  refine sl_v rfl (r_len_l (s := a0) rfl rfl Try.underlying22) ?_
  refine sl_v rfl (r_lss rfl rfl) ?_
  refine sl_nil ?_
  refine bcases (decide (l2 < ((a0.n : Nat) : Int))) (fun hb9 => ?_) (fun hb9 => ?_)
  · replace h := h.1 (of_decide_eq_true hb9)
    refine cw_ct rfl hb9 ?_
    refine cw_skip ?_
    refine cw_seq ?_
    refine cw_block ?_
    obtain ⟨K11, hK12, h⟩ := h
    refine cw_mid (fun f w => ∃ (g : Env) (j10 : Int), f = (upd (upd (upd (upd (nm g []) 0 (a0.v)) 1 (.string a1)) 5 (.int .i64 j10)) 6 (.int .i64 l2)) ∧ K11 j10 w) ?_ (fun _ w13 hM15 => ?_)
    ·
      refine cw_seq ?_
      refine cw_region ?_
      refine sl_v rfl (r_mv rfl) ?_
      refine sl_v rfl (r_mv rfl) ?_
      obtain ⟨k16, rfl, hk17, h⟩ := h
      obtain ⟨b18, o19, hb20, h⟩ := h
      refine sl_v rfl (ia_sl_api_Merge (s := a0) (j := k16) (o' := o19 + k16 * 2) rfl rfl hk17 hb20 rfl) ?_
      refine sl_v rfl (fa_api_Merge_0 (o' := o19 + k16 * 2) rfl rfl) ?_
      obtain ⟨v21, hc22, h⟩ := h
      refine sl_v rfl (ld_string rfl hc22) ?_
      refine sl_v rfl (r_mv rfl) ?_
      refine sl_v rfl (s_eql rfl rfl) ?_
      refine sl_nil ?_
      refine bcases (decide (v21 = a1)) (fun hb23 => ?_) (fun hb23 => ?_)
      · replace h := h.1 (of_decide_eq_true hb23)
        refine cw_ct rfl hb23 ?_
        refine cw_region ?_
        refine sl_v rfl (r_mv rfl) ?_
        obtain ⟨z24, hz24, h⟩ := h
        refine sl_v rfl (r_add rfl rfl hz24) ?_
        refine sl_v rfl (r_as rfl) ?_
        refine sl_nil ?_
        exact ⟨_, z24, (kp (kp (kp (kp (kn rfl) rfl) rfl) rfl) rfl), h⟩
      · replace h := h.2 (of_decide_eq_false hb23)
        refine cw_cf rfl hb23 ?_
        refine cw_skip ?_
        exact ⟨_, l1, (kp (kp (kp (kp (kn rfl) rfl) rfl) rfl) rfl), h⟩
    ·
      obtain ⟨g14, j10, rfl, hM15⟩ := hM15
      replace h := hK12 j10 w13 hM15
      have hx : Ext w13 w13 := Chg.refl _
      refine cw_seq ?_
      refine cw_region ?_
      refine sl_v rfl (r_mv rfl) ?_
      refine sl_v rfl (r_mv rfl) ?_
      obtain ⟨k25, rfl, hk26, h⟩ := h
      obtain ⟨b27, o28, hb29, h⟩ := h
      refine sl_v rfl (ia_sl_api_Merge (s := a0) (j := k25) (o' := o28 + k25 * 2) rfl rfl hk26 hb29 rfl) ?_
      refine sl_v rfl (fa_api_Merge_1 (o' := o28 + k25 * 2 + 1) rfl rfl) ?_
      obtain ⟨v30, hc31, h⟩ := h
      refine sl_v rfl (ld_string rfl hc31) ?_
      refine sl_v rfl (r_mv rfl) ?_
      refine sl_v rfl (s_eql rfl rfl) ?_
      refine sl_nil ?_
      refine bcases (decide (v30 = a1)) (fun hb32 => ?_) (fun hb32 => ?_)
      · replace h := h.1 (of_decide_eq_true hb32)
        refine cw_ct rfl hb32 ?_
        refine cw_region ?_
        refine sl_v rfl (r_mv rfl) ?_
        obtain ⟨z33, hz33, h⟩ := h
        refine sl_v rfl (r_add rfl rfl hz33) ?_
        refine sl_v rfl (r_as rfl) ?_
        refine sl_nil ?_
        refine cw_region ?_
        refine sl_v rfl (r_mv rfl) ?_
        obtain ⟨z34, hz34, h⟩ := h
        refine sl_v rfl (r_add rfl rfl hz34) ?_
        refine sl_v rfl (r_as rfl) ?_
        refine sl_nil ?_
        exact ⟨(z33, z34), _, (kp (kp (kp (kp (kn rfl) rfl) rfl) rfl) rfl), h.1, h.2⟩
      · replace h := h.2 (of_decide_eq_false hb32)
        refine cw_cf rfl hb32 ?_
        refine cw_skip ?_
        refine cw_region ?_
        refine sl_v rfl (r_mv rfl) ?_
        obtain ⟨z35, hz35, h⟩ := h
        refine sl_v rfl (r_add rfl rfl hz35) ?_
        refine sl_v rfl (r_as rfl) ?_
        refine sl_nil ?_
        exact ⟨(j10, z35), _, (kp (kp (kp (kp (kn rfl) rfl) rfl) rfl) rfl), h.1, h.2⟩
  · replace h := h.2 (of_decide_eq_false hb9)
    refine cw_cf rfl hb9 ?_
    refine cw_exit ?_
    refine cw_seq ?_
    refine cw_region ?_
    refine sl_v rfl (r_mv rfl) ?_
    refine sl_v rfl (r_as rfl) ?_
    refine sl_nil ?_
    refine cw_ret ?_
    exact rs_1 (rt rfl) ⟨l1, rfl, h⟩

def VC_vocab_Vocab_Len (a0 : Option Addr) (R : Int → World → Prop) (w : World) : Prop :=
  (a0 = none → (R 0 w)) ∧ (¬ (a0 = none) → (∃ (b2 o3 : Nat), a0 = some ⟨b2, o3, none⟩ ∧ (∃ v4 : Option Nat, w.cell? ⟨b2, o3, none⟩ = some (.map v4) ∧ (∃ es6 : List (ByteArray × Int), Mp strV intV w v4 es6 ∧ (R ((es6.length : Nat) : Int) w)))))
set_option maxRecDepth 100000 in
theorem vc_vocab_Vocab_Len {a0 : Option Addr} {R : Int → World → Prop} {w : World} (h : VC_vocab_Vocab_Len a0 R w) : Calls PP n_vocab_Vocab_Len #[.pointer a0] w fun e w' => ∃ r0 : Int, e = .returned (.int .i64 r0) ∧ R r0 w' := by
  refine Calls.mono (calls_of_cw (n := 10) (rs := #[.tmp 2]) (args := [.pointer a0]) (R := fun v w' => ∃ r0 : Int, v = .int .i64 r0 ∧ R r0 w') Try.func18 rfl rfl (Nat.le_of_ble_eq_true rfl) rfl ?_) ?_
  case refine_2 => rintro e w' ⟨v, rfl, hr⟩; obtain ⟨r0, rfl, hr⟩ := hr; exact ⟨r0, rfl, hr⟩
  have hx : Ext w w := Chg.refl _
  unfold VC_vocab_Vocab_Len at h
  refine cw_seq ?_
  refine cw_region ?_
  refine sl_v rfl (r_as rfl) ?_
  refine sl_nil ?_
  refine cw_seq ?_
  refine cw_seq ?_
  refine cw_region ?_
  refine sl_v rfl (r_mv rfl) ?_
  refine sl_v rfl (p_eqn rfl rfl Try.underlying25) ?_
  refine sl_nil ?_
  refine bcases (decide (a0 = none)) (fun hb1 => ?_) (fun hb1 => ?_)
  · replace h := h.1 (of_decide_eq_true hb1)
    refine cw_ct rfl hb1 ?_
    refine cw_seq ?_
    refine cw_region ?_
    refine sl_v rfl (r_as rfl) ?_
    refine sl_nil ?_
    refine cw_ret ?_
    exact rs_1 (rt rfl) ⟨0, rfl, h⟩
  · replace h := h.2 (of_decide_eq_false hb1)
    refine cw_cf rfl hb1 ?_
    refine cw_skip ?_
    refine cw_seq ?_
    refine cw_region ?_
    refine sl_v rfl (r_mv rfl) ?_
    obtain ⟨b2, o3, rfl, h⟩ := h
    refine sl_v rfl (r_nc rfl) ?_
    refine sl_v rfl (fa_vocab_Vocab_0 (o' := o3) rfl rfl) ?_
    obtain ⟨v4, hc5, h⟩ := h
    refine sl_v rfl (ld_map_string_int rfl hc5) ?_
    obtain ⟨es6, hm7, h⟩ := h
    refine sl_v rfl (r_len_m rfl rfl Try.underlying73 hm7) ?_
    refine sl_v rfl (r_as rfl) ?_
    refine sl_nil ?_
    refine cw_ret ?_
    exact rs_1 (rt rfl) ⟨((es6.length : Nat) : Int), rfl, h⟩

def VC_ref01_Texts (a0 : Sl) (a1 : Sl) (R : Bool → World → Prop) (w : World) : Prop :=
  (((a0.n : Nat) : Int) ≠ ((a1.n : Nat) : Int) → (R false w)) ∧ (¬ (((a0.n : Nat) : Int) ≠ ((a1.n : Nat) : Int)) → (∃ (I3 : Int → World → Prop) (μ4 : Int → World → Nat), I3 0 w ∧ ∀ (l2 : Int) (w6 : World), I3 l2 w6 → ((l2 < ((a0.n : Nat) : Int) → (∃ k12 : Nat, l2 = ((k12 : Nat) : Int) ∧ k12 < a0.n ∧ (∃ (b14 o15 : Nat), a0.b = some ⟨b14, o15, none⟩ ∧ (∃ v17 : ByteArray, w6.cell? ⟨b14, o15 + k12 * 1, none⟩ = some (.string v17) ∧ (k12 < a1.n ∧ (∃ (b20 o21 : Nat), a1.b = some ⟨b20, o21, none⟩ ∧ (∃ v23 : ByteArray, w6.cell? ⟨b20, o21 + k12 * 1, none⟩ = some (.string v23) ∧ ((v17 ≠ v23 → (∀ w10 : World, Ext w6 w10 → (R false w10))) ∧ (¬ (v17 ≠ v23) → (∃ z27 : Int, z27 = IntKind.wrap .i64 (((k12 : Nat) : Int) + 1) ∧ (∀ w10 : World, Ext w6 w10 → (I3 z27 w10 ∧ μ4 z27 w10 < μ4 l2 w6)))))))))))) ∧ (¬ (l2 < ((a0.n : Nat) : Int)) → (R true w6)))))
set_option maxRecDepth 100000 in
theorem vc_ref01_Texts {a0 : Sl} {a1 : Sl} {R : Bool → World → Prop} {w : World} (h : VC_ref01_Texts a0 a1 R w) : Calls PP n_ref01_Texts #[a0.v, a1.v] w fun e w' => ∃ r0 : Bool, e = .returned (.bool r0) ∧ R r0 w' := by
  refine Calls.mono (calls_of_cw (n := 26) (rs := #[.tmp 4]) (args := [a0.v, a1.v]) (R := fun v w' => ∃ r0 : Bool, v = .bool r0 ∧ R r0 w') Try.func19 rfl rfl (Nat.le_of_ble_eq_true rfl) rfl ?_) ?_
  case refine_2 => rintro e w' ⟨v, rfl, hr⟩; obtain ⟨r0, rfl, hr⟩ := hr; exact ⟨r0, rfl, hr⟩
  have hx : Ext w w := Chg.refl _
  unfold VC_ref01_Texts at h
  refine cw_seq ?_
  refine cw_region ?_
  refine sl_v rfl (r_as rfl) ?_
  refine sl_nil ?_
  refine cw_seq ?_
  refine cw_seq ?_
  refine cw_region ?_
  refine sl_v rfl (r_mv rfl) ?_
  refine sl_v rfl (r_len_l (s := a0) rfl rfl Try.underlying37) ?_
  refine sl_v rfl (r_mv rfl) ?_
  refine sl_v rfl (r_len_l (s := a1) rfl rfl Try.underlying37) ?_
  refine sl_v rfl (r_neq rfl rfl) ?_
  refine sl_nil ?_
  refine bcases (decide (((a0.n : Nat) : Int) ≠ ((a1.n : Nat) : Int))) (fun hb1 => ?_) (fun hb1 => ?_)
  · replace h := h.1 (of_decide_eq_true hb1)
    refine cw_ct rfl hb1 ?_
    refine cw_seq ?_
    refine cw_region ?_
    refine sl_v rfl (r_as rfl) ?_
    refine sl_nil ?_
    refine cw_ret ?_
    exact rs_1 (rt rfl) ⟨false, rfl, h⟩
  · replace h := h.2 (of_decide_eq_false hb1)
    refine cw_cf rfl hb1 ?_
    refine cw_skip ?_
    refine cw_seq ?_
    refine cw_seq ?_
    refine cw_region ?_
    refine sl_v rfl (r_as rfl) ?_
    refine sl_nil ?_
    refine cw_block ?_
    obtain ⟨I3, μ4, hI5, h⟩ := h
    refine cw_loop (σ := Int) (fun s g => (upd (upd (upd (nm g []) 0 (a0.v)) 1 (a1.v)) 5 (.int .i64 s))) (fun s w => I3 s w) (fun s w => μ4 s w) (0) _ (kp (kp (kp (kn rfl) rfl) rfl) rfl) hI5 ?_
    rintro l2 g7 w6 hi8
    replace h := h l2 w6 hi8
    have hx : Ext w6 w6 := Chg.refl _
    change CW _ PP _ _ _ (upd (upd (upd (nm g7 []) 0 (a0.v)) 1 (a1.v)) 5 (.int .i64 l2)) _
    refine cw_seq ?_
    refine cw_seq ?_
    refine cw_region ?_
    refine sl_v rfl (r_mv rfl) ?_
    refine sl_v rfl (r_mv rfl) ?_
    refine sl_v rfl (r_len_l (s := a0) rfl rfl Try.underlying37) ?_
    refine sl_v rfl (r_lss rfl rfl) ?_
    refine sl_nil ?_
    refine bcases (decide (l2 < ((a0.n : Nat) : Int))) (fun hb9 => ?_) (fun hb9 => ?_)
    · replace h := h.1 (of_decide_eq_true hb9)
      refine cw_ct rfl hb9 ?_
      refine cw_skip ?_
      refine cw_seq ?_
      refine cw_block ?_
      refine cw_seq ?_
      refine cw_still mo (by kernel_rfl) (fun w10 hd11 => ?_)
      replace hx := hx.tr (Ext.of_drew hd11)
      refine st_v rfl (r_mv rfl) ?_
      refine st_v rfl (r_mv rfl) ?_
      obtain ⟨k12, rfl, hk13, h⟩ := h
      obtain ⟨b14, o15, hb16, h⟩ := h
      refine st_v rfl (ia_sl_string (s := a0) (j := k12) (o' := o15 + k12 * 1) rfl rfl hk13 hb16 rfl) ?_
      obtain ⟨v17, hc18, h⟩ := h
      refine st_v rfl (ld_string rfl (hx.cell hc18)) ?_
      refine st_v rfl (r_mv rfl) ?_
      refine st_v rfl (r_mv rfl) ?_
      obtain ⟨hk19, h⟩ := h
      obtain ⟨b20, o21, hb22, h⟩ := h
      refine st_v rfl (ia_sl_string (s := a1) (j := k12) (o' := o21 + k12 * 1) rfl rfl hk19 hb22 rfl) ?_
      obtain ⟨v23, hc24, h⟩ := h
      refine st_v rfl (ld_string rfl (hx.cell hc24)) ?_
      refine st_v rfl (s_neq rfl rfl) ?_
      refine st_nil ?_
      refine bcases (decide (v17 ≠ v23)) (fun hb25 => ?_) (fun hb25 => ?_)
      · replace h := h.1 (of_decide_eq_true hb25)
        refine cw_ct rfl hb25 ?_
        refine cw_seq ?_
        refine cw_region ?_
        refine sl_v rfl (r_as rfl) ?_
        refine sl_nil ?_
        refine cw_ret ?_
        replace h := h _ hx
        replace hx : Ext w10 w10 := Chg.refl _
        exact rs_1 (rt rfl) ⟨false, rfl, h⟩
      · replace h := h.2 (of_decide_eq_false hb25)
        refine cw_cf rfl hb25 ?_
        refine cw_skip ?_
        refine cw_region ?_
        refine sl_v rfl (r_mv rfl) ?_
        obtain ⟨z27, hz27, h⟩ := h
        refine sl_v rfl (r_add rfl rfl hz27) ?_
        refine sl_v rfl (r_as rfl) ?_
        refine sl_nil ?_
        replace h := h _ hx
        replace hx : Ext w10 w10 := Chg.refl _
        exact ⟨(z27), _, (kp (kp (kp (kn rfl) rfl) rfl) rfl), h.1, h.2⟩
    · replace h := h.2 (of_decide_eq_false hb9)
      refine cw_cf rfl hb9 ?_
      refine cw_exit ?_
      refine cw_seq ?_
      refine cw_region ?_
      refine sl_v rfl (r_as rfl) ?_
      refine sl_nil ?_
      refine cw_ret ?_
      exact rs_1 (rt rfl) ⟨true, rfl, h⟩

def VC_vocab_Vocab_Longest (a0 : Option Addr) (a1 : ByteArray) (R : Sl → World → Prop) (w : World) : Prop :=
  (a0 = none → (R (⟨none, 0, 0⟩ : Sl) w)) ∧ (¬ (a0 = none) → (∃ (I4 : ByteArray → Sl → World → Prop) (μ5 : ByteArray → Sl → World → Nat), I4 a1 (⟨none, 0, 0⟩ : Sl) w ∧ ∀ (l2 : ByteArray) (l3 : Sl) (w7 : World), I4 l2 l3 w7 → ((l2 ≠ (⟨#[]⟩ : ByteArray) → (∃ (b11 o12 : Nat), a0 = some ⟨b11, o12, none⟩ ∧ (∃ v13 : Int, w7.cell? ⟨b11, o12 + 2, none⟩ = some (.int .i64 v13) ∧ (∃ (I16 : Int → World → Prop) (μ17 : Int → World → Nat), I16 (min ((l2.size : Nat) : Int) v13) w7 ∧ ∀ (l15 : Int) (w19 : World), I16 l15 w19 → (∃ k22 : Nat, l15 = ((k22 : Nat) : Int) ∧ ((0 ≤ k22 ∧ k22 ≤ l2.size) ∧ (Calls PP n_vocab_Vocab_Has #[.pointer (some ⟨b11, o12, none⟩), .string (l2.extract 0 k22)] w19 (fun e w25 => ∃ r28 : Bool, e = .returned (.bool r28) ∧ ((r28 = true → ((0 ≤ k22 ∧ k22 ≤ l2.size) ∧ (∃ xs39 : List Value, Own w25 t_string 1 l3 xs39 ∧ ((l3.n + 1) * 16 ≤ 140737488355328 ∧ l3.n + 1 ≤ maxLen) ∧ (∀ (s36 : Sl) (w35 : World), App w25 t_string 1 l3 xs39 1 [.string (l2.extract 0 k22)] s36 w35 → ((k22 ≤ l2.size ∧ l2.size ≤ l2.size) ∧ (I4 (l2.extract k22 l2.size) s36 w35 ∧ μ5 (l2.extract k22 l2.size) s36 w35 < μ5 l2 l3 w7)))))) ∧ (r28 = false → (∃ z43 : Int, z43 = IntKind.wrap .i64 (((k22 : Nat) : Int) - 1) ∧ (I16 z43 w25 ∧ μ17 z43 w25 < μ17 l15 w19)))))))))))) ∧ (¬ (l2 ≠ (⟨#[]⟩ : ByteArray)) → (R l3 w7)))))
set_option maxRecDepth 100000 in
theorem vc_vocab_Vocab_Longest {a0 : Option Addr} {a1 : ByteArray} {R : Sl → World → Prop} {w : World} (h : VC_vocab_Vocab_Longest a0 a1 R w) : Calls PP n_vocab_Vocab_Longest #[.pointer a0, .string a1] w fun e w' => ∃ r0 : Sl, e = .returned (r0.v) ∧ R r0 w' := by
  refine Calls.mono (calls_of_cw (n := 36) (rs := #[.tmp 4]) (args := [.pointer a0, .string a1]) (R := fun v w' => ∃ r0 : Sl, v = r0.v ∧ R r0 w') Try.func20 rfl rfl (Nat.le_of_ble_eq_true rfl) rfl ?_) ?_
  case refine_2 => rintro e w' ⟨v, rfl, hr⟩; obtain ⟨r0, rfl, hr⟩ := hr; exact ⟨r0, rfl, hr⟩
  have hx : Ext w w := Chg.refl _
  unfold VC_vocab_Vocab_Longest at h
  refine cw_seq ?_
  refine cw_region ?_
  refine sl_v rfl (r_as rfl) ?_
  refine sl_nil ?_
  refine cw_seq ?_
  refine cw_seq ?_
  refine cw_region ?_
  refine sl_v rfl (r_mv rfl) ?_
  refine sl_v rfl (p_eqn rfl rfl Try.underlying25) ?_
  refine sl_nil ?_
  refine bcases (decide (a0 = none)) (fun hb1 => ?_) (fun hb1 => ?_)
  · replace h := h.1 (of_decide_eq_true hb1)
    refine cw_ct rfl hb1 ?_
    refine cw_seq ?_
    refine cw_region ?_
    refine sl_v rfl (r_as rfl) ?_
    refine sl_nil ?_
    refine cw_ret ?_
    exact rs_1 (rt rfl) ⟨(⟨none, 0, 0⟩ : Sl), rfl, h⟩
  · replace h := h.2 (of_decide_eq_false hb1)
    refine cw_cf rfl hb1 ?_
    refine cw_skip ?_
    refine cw_seq ?_
    refine cw_region ?_
    refine sl_v rfl (r_as rfl) ?_
    refine sl_nil ?_
    refine cw_seq ?_
    refine cw_block ?_
    obtain ⟨I4, μ5, hI6, h⟩ := h
    refine cw_loop (σ := ByteArray × Sl) (fun s g => (upd (upd (upd (nm g []) 0 (.pointer a0)) 1 (.string s.1)) 5 (s.2.v))) (fun s w => I4 s.1 s.2 w) (fun s w => μ5 s.1 s.2 w) (a1, (⟨none, 0, 0⟩ : Sl)) _ (kp (kp (kp (kn rfl) rfl) rfl) rfl) hI6 ?_
    rintro ⟨l2, l3⟩ g8 w7 hi9
    replace h := h l2 l3 w7 hi9
    have hx : Ext w7 w7 := Chg.refl _
    change CW _ PP _ _ _ (upd (upd (upd (nm g8 []) 0 (.pointer a0)) 1 (.string l2)) 5 (l3.v)) _
    refine cw_seq ?_
    refine cw_seq ?_
    refine cw_region ?_
    refine sl_v rfl (r_mv rfl) ?_
    refine sl_v rfl (s_neq rfl rfl) ?_
    refine sl_nil ?_
    refine bcases (decide (l2 ≠ (⟨#[]⟩ : ByteArray))) (fun hb10 => ?_) (fun hb10 => ?_)
    · replace h := h.1 (of_decide_eq_true hb10)
      refine cw_ct rfl hb10 ?_
      refine cw_skip ?_
      refine cw_block ?_
      refine cw_seq ?_
      refine cw_region ?_
      refine sl_v rfl (r_mv rfl) ?_
      refine sl_v rfl (r_len_s rfl rfl Try.underlying9) ?_
      refine sl_v rfl (r_mv rfl) ?_
      obtain ⟨b11, o12, rfl, h⟩ := h
      refine sl_v rfl (r_nc rfl) ?_
      refine sl_v rfl (fa_vocab_Vocab_2 (o' := o12 + 2) rfl rfl) ?_
      obtain ⟨v13, hc14, h⟩ := h
      refine sl_v rfl (ld_int rfl hc14) ?_
      refine sl_v rfl (r_min rfl rfl) ?_
      refine sl_v rfl (r_as rfl) ?_
      refine sl_nil ?_
      refine cw_seq ?_
      refine cw_block ?_
      obtain ⟨I16, μ17, hI18, h⟩ := h
      refine cw_loop (σ := Int) (fun s g => (upd (upd (upd (upd (nm g []) 0 (.pointer (some ⟨b11, o12, none⟩))) 1 (.string l2)) 5 (l3.v)) 6 (.int .i64 s))) (fun s w => I16 s w) (fun s w => μ17 s w) (min ((l2.size : Nat) : Int) v13) _ (kp (kp (kp (kp (kn rfl) rfl) rfl) rfl) rfl) hI18 ?_
      rintro l15 g20 w19 hi21
      replace h := h l15 w19 hi21
      have hx : Ext w19 w19 := Chg.refl _
      change CW _ PP _ _ _ (upd (upd (upd (upd (nm g20 []) 0 (.pointer (some ⟨b11, o12, none⟩))) 1 (.string l2)) 5 (l3.v)) 6 (.int .i64 l15)) _
      refine cw_seq ?_
      refine cw_seq ?_
      refine cw_region ?_
      refine sl_v rfl (r_mv rfl) ?_
      refine sl_v rfl (r_mv rfl) ?_
      refine sl_v rfl (r_mv rfl) ?_
      obtain ⟨k22, rfl, h⟩ := h
      obtain ⟨hr23, h⟩ := h
      refine sl_v rfl (r_ss (s := l2) (l := 0) (h := k22) rfl Try.underlying9 rfl rfl (fun _ => rfl) (by intro h; cases h) hr23) ?_
      refine sl_op rfl (ok_call c_vocab_Vocab_Has rfl (Calls.mono h (fun e24 w25 hq26 => ?_)))
      clear h
      obtain ⟨r28, he27, h⟩ := hq26
      refine ⟨_, he27, ?_⟩
      replace hx : Ext w25 w25 := Chg.refl _
      refine sl_v rfl (r_not rfl) ?_
      refine sl_nil ?_
      refine bcases (r28) (fun hb29 => ?_) (fun hb29 => ?_)
      · replace h := h.1 hb29
        refine cw_cf rfl (nt hb29) ?_
        refine cw_exit ?_
        refine cw_seq ?_
        refine cw_region ?_
        refine sl_v rfl (r_mv rfl) ?_
        refine sl_v rfl (r_mv rfl) ?_
        refine sl_v rfl (r_mv rfl) ?_
        obtain ⟨hr30, h⟩ := h
        refine sl_v rfl (r_ss (s := l2) (l := 0) (h := k22) rfl Try.underlying9 rfl rfl (fun _ => rfl) (by intro h; cases h) hr30) ?_
        refine sl_op rfl (bs_sl_string (len := 1) (vs := [(0, .string (l2.extract 0 k22))]) (cs := #[.string (l2.extract 0 k22)]) (by decide) rfl rfl (fun b31 w32 hN33 => ?_))
        have hB34 := hN33.here
        replace hx := hx.tr hN33.ext
        obtain ⟨xs39, ho40, hb41, h⟩ := h
        refine sl_op rfl (ap_sl_string (s := l3) (xs := xs39) (m := 1) (news := [.string (l2.extract 0 k22)]) rfl rfl hx ho40 (.c (cell_blk hB34 rfl) .n) rfl rfl hb41 (fun s36 w35 ha37 hc38 => ?_))
        replace h := h s36 w35 ha37
        replace hx : Ext w35 w35 := Chg.refl _
        refine sl_v rfl (r_as rfl) ?_
        refine sl_nil ?_
        refine cw_region ?_
        refine sl_v rfl (r_mv rfl) ?_
        refine sl_v rfl (r_mv rfl) ?_
        obtain ⟨hr42, h⟩ := h
        refine sl_v rfl (r_ss (s := l2) (l := k22) (h := l2.size) rfl Try.underlying9 rfl rfl (by intro h; cases h) (fun _ => rfl) hr42) ?_
        refine sl_v rfl (r_as rfl) ?_
        refine sl_nil ?_
        exact ⟨(l2.extract k22 l2.size, s36), _, (kp (kp (kp (kn rfl) rfl) rfl) rfl), h.1, h.2⟩
      · replace h := h.2 hb29
        refine cw_ct rfl (nf hb29) ?_
        refine cw_skip ?_
        refine cw_block ?_
        refine cw_region ?_
        refine sl_v rfl (r_mv rfl) ?_
        obtain ⟨z43, hz43, h⟩ := h
        refine sl_v rfl (r_sub rfl rfl hz43) ?_
        refine sl_v rfl (r_as rfl) ?_
        refine sl_nil ?_
        exact ⟨(z43), _, (kp (kp (kp (kp (kn rfl) rfl) rfl) rfl) rfl), h.1, h.2⟩
    · replace h := h.2 (of_decide_eq_false hb10)
      refine cw_cf rfl hb10 ?_
      refine cw_exit ?_
      refine cw_seq ?_
      refine cw_region ?_
      refine sl_v rfl (r_mv rfl) ?_
      refine sl_v rfl (r_as rfl) ?_
      refine sl_nil ?_
      refine cw_ret ?_
      exact rs_1 (rt rfl) ⟨l3, rfl, h⟩

def VC_ref21_Longest (a0 : Sl) (a1 : ByteArray) (R : Sl → World → Prop) (w : World) : Prop :=
  ∃ (I3 : ByteArray → Sl → World → Prop) (μ4 : ByteArray → Sl → World → Nat), I3 a1 (⟨none, 0, 0⟩ : Sl) w ∧ ∀ (l1 : ByteArray) (l2 : Sl) (w6 : World), I3 l1 l2 w6 → (((0 : Int) < ((l1.size : Nat) : Int) → (∃ K11 : Int → World → Prop, (∀ (j10 : Int) (w13 : World), K11 j10 w13 → (∃ k33 : Nat, j10 = ((k33 : Nat) : Int) ∧ ((0 ≤ k33 ∧ k33 ≤ l1.size) ∧ (∃ xs43 : List Value, Own w13 t_string 1 l2 xs43 ∧ ((l2.n + 1) * 16 ≤ 140737488355328 ∧ l2.n + 1 ≤ maxLen) ∧ (∀ (s40 : Sl) (w39 : World), App w13 t_string 1 l2 xs43 1 [.string (l1.extract 0 k33)] s40 w39 → ((k33 ≤ l1.size ∧ l1.size ≤ l1.size) ∧ (I3 (l1.extract k33 l1.size) s40 w39 ∧ μ4 (l1.extract k33 l1.size) s40 w39 < μ4 l1 l2 w6))))))) ∧ (∃ (I17 : Int → World → Prop) (μ18 : Int → World → Nat), I17 ((l1.size : Nat) : Int) w6 ∧ ∀ (l16 : Int) (w20 : World), I17 l16 w20 → (((1 : Int) < l16 → (∃ k24 : Nat, l16 = ((k24 : Nat) : Int) ∧ ((0 ≤ k24 ∧ k24 ≤ l1.size) ∧ (Calls PP n_ref21_Has #[a0.v, .string (l1.extract 0 k24)] w20 (fun e w27 => ∃ r30 : Bool, e = .returned (.bool r30) ∧ ((r30 = true → (K11 ((k24 : Nat) : Int) w27)) ∧ (r30 = false → (∃ z32 : Int, z32 = IntKind.wrap .i64 (((k24 : Nat) : Int) - 1) ∧ (I17 z32 w27 ∧ μ18 z32 w27 < μ18 l16 w20))))))))) ∧ (¬ ((1 : Int) < l16) → (K11 l16 w20)))))) ∧ (¬ ((0 : Int) < ((l1.size : Nat) : Int)) → (R l2 w6)))
set_option maxRecDepth 100000 in
theorem vc_ref21_Longest {a0 : Sl} {a1 : ByteArray} {R : Sl → World → Prop} {w : World} (h : VC_ref21_Longest a0 a1 R w) : Calls PP n_ref21_Longest #[a0.v, .string a1] w fun e w' => ∃ r0 : Sl, e = .returned (r0.v) ∧ R r0 w' := by
  refine Calls.mono (calls_of_cw (n := 34) (rs := #[.tmp 4]) (args := [a0.v, .string a1]) (R := fun v w' => ∃ r0 : Sl, v = r0.v ∧ R r0 w') Try.func21 rfl rfl (Nat.le_of_ble_eq_true rfl) rfl ?_) ?_
  case refine_2 => rintro e w' ⟨v, rfl, hr⟩; obtain ⟨r0, rfl, hr⟩ := hr; exact ⟨r0, rfl, hr⟩
  have hx : Ext w w := Chg.refl _
  unfold VC_ref21_Longest at h
  refine cw_seq ?_
  refine cw_region ?_
  refine sl_v rfl (r_as rfl) ?_
  refine sl_nil ?_
  refine cw_seq ?_
  refine cw_region ?_
  refine sl_v rfl (r_as rfl) ?_
  refine sl_nil ?_
  refine cw_seq ?_
  refine cw_block ?_
  obtain ⟨I3, μ4, hI5, h⟩ := h
  refine cw_loop (σ := ByteArray × Sl) (fun s g => (upd (upd (upd (nm g []) 0 (a0.v)) 1 (.string s.1)) 5 (s.2.v))) (fun s w => I3 s.1 s.2 w) (fun s w => μ4 s.1 s.2 w) (a1, (⟨none, 0, 0⟩ : Sl)) _ (kp (kp (kp (kn rfl) rfl) rfl) rfl) hI5 ?_
  rintro ⟨l1, l2⟩ g7 w6 hi8
  replace h := h l1 l2 w6 hi8
  have hx : Ext w6 w6 := Chg.refl _
  change CW _ PP _ _ _ (upd (upd (upd (nm g7 []) 0 (a0.v)) 1 (.string l1)) 5 (l2.v)) _
  refine cw_seq ?_
  refine cw_seq ?_
  refine cw_region ?_
  refine sl_v rfl (r_mv rfl) ?_
  refine sl_v rfl (r_len_s rfl rfl Try.underlying9) ?_
  refine sl_v rfl (r_gtr rfl rfl) ?_
  refine sl_nil ?_
  refine bcases (decide ((0 : Int) < ((l1.size : Nat) : Int))) (fun hb9 => ?_) (fun hb9 => ?_)
  · replace h := h.1 (of_decide_eq_true hb9)
    refine cw_ct rfl hb9 ?_
    refine cw_skip ?_
    refine cw_block ?_
    refine cw_seq ?_
    refine cw_region ?_
    refine sl_v rfl (r_mv rfl) ?_
    refine sl_v rfl (r_len_s rfl rfl Try.underlying9) ?_
    refine sl_v rfl (r_as rfl) ?_
    refine sl_nil ?_
    obtain ⟨K11, hK12, h⟩ := h
    refine cw_mid (fun f w => ∃ (g : Env) (j10 : Int), f = (upd (upd (upd (upd (nm g []) 0 (a0.v)) 1 (.string l1)) 5 (l2.v)) 6 (.int .i64 j10)) ∧ K11 j10 w) ?_ (fun _ w13 hM15 => ?_)
    ·
      refine cw_block ?_
      obtain ⟨I17, μ18, hI19, h⟩ := h
      refine cw_loop (σ := Int) (fun s g => (upd (upd (upd (upd (nm g []) 0 (a0.v)) 1 (.string l1)) 5 (l2.v)) 6 (.int .i64 s))) (fun s w => I17 s w) (fun s w => μ18 s w) (((l1.size : Nat) : Int)) _ (kp (kp (kp (kp (kn rfl) rfl) rfl) rfl) rfl) hI19 ?_
      rintro l16 g21 w20 hi22
      replace h := h l16 w20 hi22
      have hx : Ext w20 w20 := Chg.refl _
      change CW _ PP _ _ _ (upd (upd (upd (upd (nm g21 []) 0 (a0.v)) 1 (.string l1)) 5 (l2.v)) 6 (.int .i64 l16)) _
      refine cw_seq ?_
      refine cw_seq ?_
      refine cw_region ?_
      refine sl_v rfl (r_mv rfl) ?_
      refine sl_v rfl (r_gtr rfl rfl) ?_
      refine sl_v rfl (r_mv rfl) ?_
      refine bcases (decide ((1 : Int) < l16)) (fun hb23 => ?_) (fun hb23 => ?_)
      · replace h := h.1 (of_decide_eq_true hb23)
        refine sl_vg rfl rfl rfl hb23 (r_mv rfl) ?_
        refine sl_vg rfl rfl rfl hb23 (r_mv rfl) ?_
        refine sl_vg rfl rfl rfl hb23 (r_mv rfl) ?_
        obtain ⟨k24, rfl, h⟩ := h
        obtain ⟨hr25, h⟩ := h
        refine sl_vg rfl rfl rfl hb23 (r_ss (s := l1) (l := 0) (h := k24) rfl Try.underlying9 rfl rfl (fun _ => rfl) (by intro h; cases h) hr25) ?_
        refine sl_g rfl rfl rfl hb23 (ok_call c_ref21_Has rfl (Calls.mono h (fun e26 w27 hq28 => ?_)))
        clear h
        obtain ⟨r30, he29, h⟩ := hq28
        refine ⟨_, he29, ?_⟩
        replace hx : Ext w27 w27 := Chg.refl _
        refine sl_vg rfl rfl rfl hb23 (r_not rfl) ?_
        refine sl_v rfl (r_pt rfl hb23 rfl) ?_
        refine sl_nil ?_
        refine bcases (r30) (fun hb31 => ?_) (fun hb31 => ?_)
        · replace h := h.1 hb31
          refine cw_cf rfl (nt hb31) ?_
          refine cw_exit ?_
          exact ⟨_, ((k24 : Nat) : Int), (kp (kp (kp (kp (kn rfl) rfl) rfl) rfl) rfl), h⟩
        · replace h := h.2 hb31
          refine cw_ct rfl (nf hb31) ?_
          refine cw_skip ?_
          refine cw_block ?_
          refine cw_region ?_
          refine sl_v rfl (r_mv rfl) ?_
          obtain ⟨z32, hz32, h⟩ := h
          refine sl_v rfl (r_sub rfl rfl hz32) ?_
          refine sl_v rfl (r_as rfl) ?_
          refine sl_nil ?_
          exact ⟨(z32), _, (kp (kp (kp (kp (kn rfl) rfl) rfl) rfl) rfl), h.1, h.2⟩
      · replace h := h.2 (of_decide_eq_false hb23)
        refine sl_no rfl rfl rfl hb23 ?_
        refine sl_no rfl rfl rfl hb23 ?_
        refine sl_no rfl rfl rfl hb23 ?_
        refine sl_no rfl rfl rfl hb23 ?_
        refine sl_no rfl rfl rfl hb23 ?_
        refine sl_no rfl rfl rfl hb23 ?_
        refine sl_v rfl (r_pf rfl hb23 rfl) ?_
        refine sl_nil ?_
        refine cw_cf rfl rfl ?_
        refine cw_exit ?_
        exact ⟨_, l16, (kp (kp (kp (kp (kn rfl) rfl) rfl) rfl) rfl), h⟩
    ·
      obtain ⟨g14, j10, rfl, hM15⟩ := hM15
      replace h := hK12 j10 w13 hM15
      have hx : Ext w13 w13 := Chg.refl _
      refine cw_seq ?_
      refine cw_region ?_
      refine sl_v rfl (r_mv rfl) ?_
      refine sl_v rfl (r_mv rfl) ?_
      refine sl_v rfl (r_mv rfl) ?_
      obtain ⟨k33, rfl, h⟩ := h
      obtain ⟨hr34, h⟩ := h
      refine sl_v rfl (r_ss (s := l1) (l := 0) (h := k33) rfl Try.underlying9 rfl rfl (fun _ => rfl) (by intro h; cases h) hr34) ?_
      refine sl_op rfl (bs_sl_string (len := 1) (vs := [(0, .string (l1.extract 0 k33))]) (cs := #[.string (l1.extract 0 k33)]) (by decide) rfl rfl (fun b35 w36 hN37 => ?_))
      have hB38 := hN37.here
      replace hx := hx.tr hN37.ext
      obtain ⟨xs43, ho44, hb45, h⟩ := h
      refine sl_op rfl (ap_sl_string (s := l2) (xs := xs43) (m := 1) (news := [.string (l1.extract 0 k33)]) rfl rfl hx ho44 (.c (cell_blk hB38 rfl) .n) rfl rfl hb45 (fun s40 w39 ha41 hc42 => ?_))
      replace h := h s40 w39 ha41
      replace hx : Ext w39 w39 := Chg.refl _
      refine sl_v rfl (r_as rfl) ?_
      refine sl_nil ?_
      refine cw_region ?_
      refine sl_v rfl (r_mv rfl) ?_
      refine sl_v rfl (r_mv rfl) ?_
      obtain ⟨hr46, h⟩ := h
      refine sl_v rfl (r_ss (s := l1) (l := k33) (h := l1.size) rfl Try.underlying9 rfl rfl (by intro h; cases h) (fun _ => rfl) hr46) ?_
      refine sl_v rfl (r_as rfl) ?_
      refine sl_nil ?_
      exact ⟨(l1.extract k33 l1.size, s40), _, (kp (kp (kp (kn rfl) rfl) rfl) rfl), h.1, h.2⟩
  · replace h := h.2 (of_decide_eq_false hb9)
    refine cw_cf rfl hb9 ?_
    refine cw_exit ?_
    refine cw_seq ?_
    refine cw_region ?_
    refine sl_v rfl (r_mv rfl) ?_
    refine sl_v rfl (r_as rfl) ?_
    refine sl_nil ?_
    refine cw_ret ?_
    exact rs_1 (rt rfl) ⟨l2, rfl, h⟩
end Go.Proofs.Ytchjcjocihckpaa.G
