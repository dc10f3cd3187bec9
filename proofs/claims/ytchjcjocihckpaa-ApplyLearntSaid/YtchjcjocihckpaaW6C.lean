/- What is to be shown of each function, and that it is enough. -/
import Derived.Test.YtchjcjocihckpaaTC
set_option linter.unusedVariables false
namespace Go.Proofs.Ytchjcjocihckpaa.G
open Go Go.RowKit
def VC_seq_ledger_list (a0 : Option Nat) (R : Sl → World → Prop) (w : World) : Prop :=
  ∃ es1 : List ((Int × Int) × Int), Mp pairV intV w a0 es1 ∧ (∀ (r3 : Nat) (w4 : World), Ext w w4 → w.heap.size ≤ r3 → Itr pairV intV w4 r3 a0 es1 es1 none → (∃ (I9 : Sl → World → Prop) (μ10 : Sl → World → Nat), I9 (⟨none, 0, 0⟩ : Sl) w4 ∧ ∀ (l8 : Sl) (w12 : World), I9 l8 w12 → (∃ (m15 : Option Nat) (es16 lf17 : List ((Int × Int) × Int)) (la18 : Option ((Int × Int) × Int)), Itr pairV intV w12 r3 m15 es16 lf17 la18 ∧ ((lf17 = [] → (Calls PP n_slices_SortFunc_seq_Change_seq_Change #[l8.v, .func (.func 91) #[] #[]] w12 (fun e w31 => e = .returned (.tuple #[]) ∧ (R l8 w31)))) ∧ (∀ (l20 : List ((Int × Int) × Int)) (k27_0 : Int) (k27_1 : Int) (v28 : Int) (l21 : List ((Int × Int) × Int)) (w22 : World), lf17 = l20 ++ ((k27_0, k27_1), v28) :: l21 → Itr pairV intV w22 r3 m15 es16 (l20 ++ l21) (some ((k27_0, k27_1), v28)) → Chg (fun x => x = r3) w12 w22 → (∀ (b35 : Nat) (w36 : World), Priv w22 b35 w36 → (∀ w39 : World, Chg (fun b => b = b35) w36 w39 → (∃ xs50 : List Value, Own w39 t_seq_Change 3 l8 xs50 ∧ ((l8.n + 1) * 24 ≤ 140737488355328 ∧ l8.n + 1 ≤ maxLen) ∧ (l8.blk ≠ some b35 ∧ (∀ (s47 : Sl) (w46 : World), App w39 t_seq_Change 3 l8 xs50 1 [.int .i64 k27_0, .int .i64 k27_1, .int .i64 v28] s47 w46 → (I9 s47 w46 ∧ μ10 s47 w46 < μ10 l8 w12)))))))))))
set_option maxRecDepth 100000 in
theorem vc_seq_ledger_list {a0 : Option Nat} {R : Sl → World → Prop} {w : World} (h : VC_seq_ledger_list a0 R w) : Calls PP n_seq_ledger_list #[.map a0] w fun e w' => ∃ r0 : Sl, e = .returned (r0.v) ∧ R r0 w' := by
  refine Calls.mono (calls_of_cw (n := 22) (rs := #[.tmp 2]) (args := [.map a0]) (R := fun v w' => ∃ r0 : Sl, v = r0.v ∧ R r0 w') Try.func81 rfl rfl (Nat.le_of_ble_eq_true rfl) rfl ?_) ?_
  case refine_2 => rintro e w' ⟨v, rfl, hr⟩; obtain ⟨r0, rfl, hr⟩ := hr; exact ⟨r0, rfl, hr⟩
  have hx : Ext w w := Chg.refl _
  unfold VC_seq_ledger_list at h
  refine cw_seq ?_
  refine cw_region ?_
  refine sl_v rfl (r_as rfl) ?_
  refine sl_nil ?_
  refine cw_seq ?_
  refine cw_region ?_
  refine sl_v rfl (r_as rfl) ?_
  refine sl_nil ?_
  refine cw_seq ?_
  refine cw_seq ?_
  refine cw_region ?_
  refine sl_v rfl (r_mv rfl) ?_
  obtain ⟨es1, hm2, h⟩ := h
  refine sl_op rfl (rg_seq_ledger rfl hm2 (fun r3 w4 hc5 hr6 hI7 => ?_))
  replace h := h r3 w4 hc5 hr6 hI7
  replace hx : Ext w4 w4 := Chg.refl _
  refine sl_nil ?_
  refine cw_block ?_
  obtain ⟨I9, μ10, hI11, h⟩ := h
  refine cw_loop (σ := Sl) (fun s g => (upd (upd (nm g []) 3 (s.v)) 7 (.pointer (some ⟨r3, 0, none⟩)))) (fun s w => I9 s w) (fun s w => μ10 s w) ((⟨none, 0, 0⟩ : Sl)) _ (kp (kp (kn rfl) rfl) rfl) hI11 ?_
  rintro l8 g13 w12 hi14
  replace h := h l8 w12 hi14
  have hx : Ext w12 w12 := Chg.refl _
  change CW _ PP _ _ _ (upd (upd (nm g13 []) 3 (l8.v)) 7 (.pointer (some ⟨r3, 0, none⟩))) _
  refine cw_seq ?_
  refine cw_region ?_
  obtain ⟨m15, es16, lf17, la18, hI19, h⟩ := h
  refine sl_op rfl (ok_nx (ek := pairV) (ev := intV) rfl hI19 (fun h023 => ?_) (fun l20 p29 l21 w22 hl24 hI25 hc26 => ?_))
  · replace h := h.1 h023
    refine sl_v rfl (r_ex rfl rfl) ?_
    refine sl_nil ?_
    refine cw_seq ?_
    refine cw_cf rfl rfl ?_
    refine cw_exit ?_
    refine cw_seq ?_
    refine cw_region ?_
    refine sl_v rfl (r_mv rfl) ?_
    refine sl_op rfl (ok_call c_slices_SortFunc_seq_Change_seq_Change rfl (Calls.mono h (fun e30 w31 hq32 => ?_)))
    clear h
    obtain ⟨he33, h⟩ := hq32
    refine ⟨_, he33, ?_⟩
    replace hx : Ext w31 w31 := Chg.refl _
    refine sl_nil ?_
    refine cw_seq ?_
    refine cw_region ?_
    refine sl_v rfl (r_mv rfl) ?_
    refine sl_v rfl (r_as rfl) ?_
    refine sl_nil ?_
    refine cw_ret ?_
    exact rs_1 (rt rfl) ⟨l8, rfl, h⟩
  · obtain ⟨⟨k27_0, k27_1⟩, v28⟩ := p29
    replace h := h.2 l20 k27_0 k27_1 v28 l21 w22 hl24 hI25 hc26
    replace hx : Ext w22 w22 := Chg.refl _
    refine sl_v rfl (r_ex rfl rfl) ?_
    refine sl_nil ?_
    refine cw_seq ?_
    refine cw_ct rfl rfl ?_
    refine cw_skip ?_
    refine cw_block ?_
    refine cw_seq ?_
    refine cw_region ?_
    refine sl_v rfl (r_en (p := ((k27_0, k27_1), v28)) rfl hI25) ?_
    refine sl_v rfl (r_ex rfl rfl) ?_
    refine sl_v rfl (r_ex rfl rfl) ?_
    refine sl_op rfl (al_api_Pair rfl (fun b35 w36 hN37 => ?_))
    have hB38 := hN37.here
    replace h := h b35 w36 ⟨hx.tr hN37.ext, Nat.le_trans hx.size hN37.fresh, lt_of_blk hN37.here⟩
    replace hx : Ext w36 w36 := Chg.refl _
    refine sl_op rfl (st_api_Pair (vs := [.int .i64 k27_0, .int .i64 k27_1]) rfl rfl rfl rfl rfl ⟨_, _, hB38, Nat.le_of_ble_eq_true rfl⟩ (fun w39 hw40 => ?_))
    have hc_ := sto_chg hw40
    replace hB38 : w39.heap[b35]? = some (.cells #[.int .i64 k27_0, .int .i64 k27_1] t_api_Pair (0, 0)) := sto_blk hw40 hB38
    replace h := h w39 (Chg.pre hx hc_)
    replace hx : Ext w39 w39 := Chg.refl _
    clear hc_
    refine sl_v rfl (r_as rfl) ?_
    refine sl_nil ?_
    refine cw_region ?_
    refine sl_v rfl (r_mv rfl) ?_
    refine sl_v rfl (lda_api_Pair (vs := [.int .i64 k27_0, .int .i64 k27_1]) rfl rfl (.c (cell_blk hB38 rfl) (.c (cell_blk hB38 rfl) .n))) ?_
    refine sl_v rfl (r_mv rfl) ?_
    refine sl_v rfl (bd_seq_Change (vs := [(0, .agg #[.int .i64 k27_0, .int .i64 k27_1]), (1, .int .i64 v28)]) (cs := #[.int .i64 k27_0, .int .i64 k27_1, .int .i64 v28]) rfl rfl) ?_
    refine sl_op rfl (bs_sl_seq_Change (len := 1) (vs := [(0, .agg #[.int .i64 k27_0, .int .i64 k27_1, .int .i64 v28])]) (cs := #[.int .i64 k27_0, .int .i64 k27_1, .int .i64 v28]) (by decide) rfl rfl (fun b41 w42 hN43 => ?_))
    have hne44 : b35 ≠ b41 := Nat.ne_of_lt (Nat.lt_of_lt_of_le (lt_of_blk hB38) hN43.fresh)
    replace hB38 := hN43.ext.get hB38
    have hB45 := hN43.here
    replace hx := hx.tr hN43.ext
    obtain ⟨xs50, ho51, hb52, h⟩ := h
    obtain ⟨hn53, h⟩ := h
    refine sl_op rfl (ap_sl_seq_Change (s := l8) (xs := xs50) (m := 1) (news := [.int .i64 k27_0, .int .i64 k27_1, .int .i64 v28]) rfl rfl hx ho51 (.c (cell_blk hB45 rfl) (.c (cell_blk hB45 rfl) (.c (cell_blk hB45 rfl) .n))) rfl rfl hb52 (fun s47 w46 ha48 hc49 => ?_))
    replace hB38 := hc49.get hB38 hn53
    replace h := h s47 w46 ha48
    replace hx : Ext w46 w46 := Chg.refl _
    refine sl_v rfl (r_as rfl) ?_
    refine sl_nil ?_
    exact ⟨(s47), _, (kp (kp (kn rfl) rfl) rfl), h.1, h.2⟩

def VC_checked_within (a0 : Int) (R : Bool → World → Prop) (w : World) : Prop :=
  R (decide ((0 : Int) ≤ a0)) w
set_option maxRecDepth 100000 in
theorem vc_checked_within {a0 : Int} {R : Bool → World → Prop} {w : World} (h : VC_checked_within a0 R w) : Calls PP n_checked_within #[.int .i64 a0] w fun e w' => ∃ r0 : Bool, e = .returned (.bool r0) ∧ R r0 w' := by
  refine Calls.mono (calls_of_cw (n := 5) (rs := #[.tmp 2]) (args := [.int .i64 a0]) (R := fun v w' => ∃ r0 : Bool, v = .bool r0 ∧ R r0 w') Try.func86 rfl rfl (Nat.le_of_ble_eq_true rfl) rfl ?_) ?_
  case refine_2 => rintro e w' ⟨v, rfl, hr⟩; obtain ⟨r0, rfl, hr⟩ := hr; exact ⟨r0, rfl, hr⟩
  have hx : Ext w w := Chg.refl _
  unfold VC_checked_within at h
  refine cw_seq ?_
  refine cw_region ?_
  refine sl_v rfl (r_as rfl) ?_
  refine sl_nil ?_
  refine cw_seq ?_
  refine cw_region ?_
  refine sl_v rfl (r_mv rfl) ?_
  refine sl_v rfl (r_geq rfl rfl) ?_
  refine sl_v rfl (r_as rfl) ?_
  refine sl_nil ?_
  refine cw_ret ?_
  exact rs_1 (rt rfl) ⟨decide ((0 : Int) ≤ a0), rfl, h⟩

def VC_checked_Add (a0 : Int) (a1 : Int) (R : Int → Bool → World → Prop) (w : World) : Prop :=
  ∃ K2 : Bool → World → Prop, (∀ (j1 : Bool) (w4 : World), K2 j1 w4 → ((j1 = true → (R 0 false w4)) ∧ (j1 = false → (∃ z21 : Int, z21 = IntKind.wrap .i64 (a0 + a1) ∧ (R z21 true w4))))) ∧ (Calls PP n_checked_within #[.int .i64 a0] w (fun e w8 => ∃ r11 : Bool, e = .returned (.bool r11) ∧ ((r11 = true → (Calls PP n_checked_within #[.int .i64 a1] w8 (fun e w14 => ∃ r17 : Bool, e = .returned (.bool r17) ∧ ((r17 = true → (∃ z19 : Int, z19 = IntKind.wrap .i64 (9223372036854775807 - a1) ∧ (K2 (decide (z19 < a0)) w14))) ∧ (r17 = false → (K2 true w14)))))) ∧ (r11 = false → (K2 true w8)))))
set_option maxRecDepth 100000 in
theorem vc_checked_Add {a0 : Int} {a1 : Int} {R : Int → Bool → World → Prop} {w : World} (h : VC_checked_Add a0 a1 R w) : Calls PP n_checked_Add #[.int .i64 a0, .int .i64 a1] w fun e w' => ∃ r0 : Int, ∃ r1 : Bool, e = .returned (.tuple #[.int .i64 r0, .bool r1]) ∧ R r0 r1 w' := by
  refine Calls.mono (calls_of_cw (n := 23) (rs := #[.tmp 4, .tmp 5]) (args := [.int .i64 a0, .int .i64 a1]) (R := fun v w' => ∃ r0 : Int, ∃ r1 : Bool, v = .tuple #[.int .i64 r0, .bool r1] ∧ R r0 r1 w') Try.func88 rfl rfl (Nat.le_of_ble_eq_true rfl) rfl ?_) ?_
  case refine_2 => rintro e w' ⟨v, rfl, hr⟩; obtain ⟨r0, r1, rfl, hr⟩ := hr; exact ⟨r0, r1, rfl, hr⟩
  have hx : Ext w w := Chg.refl _
  unfold VC_checked_Add at h
  refine cw_seq ?_
  refine cw_region ?_
  refine sl_v rfl (r_as rfl) ?_
  refine sl_v rfl (r_as rfl) ?_
  refine sl_nil ?_
  refine cw_seq ?_
  obtain ⟨K2, hK3, h⟩ := h
  refine cw_mid (fun f w => ∃ (g : Env) (j1 : Bool), f = (upd (upd (upd (nm g []) 0 (.int .i64 a0)) 1 (.int .i64 a1)) 19 (.bool j1)) ∧ K2 j1 w) ?_ (fun _ w4 hM6 => ?_)
  ·
    refine cw_region ?_
    refine sl_v rfl (r_mv rfl) ?_
    refine sl_op rfl (ok_call c_checked_within rfl (Calls.mono h (fun e7 w8 hq9 => ?_)))
    clear h
    obtain ⟨r11, he10, h⟩ := hq9
    refine ⟨_, he10, ?_⟩
    replace hx : Ext w8 w8 := Chg.refl _
    refine sl_v rfl (r_not rfl) ?_
    refine sl_v rfl (r_mv rfl) ?_
    refine bcases (r11) (fun hb12 => ?_) (fun hb12 => ?_)
    · replace h := h.1 hb12
      refine sl_vg rfl rfl rfl (nt hb12) (r_mv rfl) ?_
      refine sl_g rfl rfl rfl (nt hb12) (ok_call c_checked_within rfl (Calls.mono h (fun e13 w14 hq15 => ?_)))
      clear h
      obtain ⟨r17, he16, h⟩ := hq15
      refine ⟨_, he16, ?_⟩
      replace hx : Ext w14 w14 := Chg.refl _
      refine sl_vg rfl rfl rfl (nt hb12) (r_not rfl) ?_
      refine sl_v rfl (r_pf rfl (nt hb12) rfl) ?_
      refine sl_v rfl (r_mv rfl) ?_
      refine bcases (r17) (fun hb18 => ?_) (fun hb18 => ?_)
      · replace h := h.1 hb18
        refine sl_vg rfl rfl rfl (nt hb18) (r_mv rfl) ?_
        refine sl_vg rfl rfl rfl (nt hb18) (r_mv rfl) ?_
        obtain ⟨z19, hz19, h⟩ := h
        refine sl_vg rfl rfl rfl (nt hb18) (r_sub rfl rfl hz19) ?_
        refine sl_vg rfl rfl rfl (nt hb18) (r_gtr rfl rfl) ?_
        refine sl_v rfl (r_pf rfl (nt hb18) rfl) ?_
        refine sl_nil ?_
        exact ⟨_, decide (z19 < a0), (kp (kp (kp (kn rfl) rfl) rfl) rfl), h⟩
      · replace h := h.2 hb18
        refine sl_no rfl rfl rfl (nf hb18) ?_
        refine sl_no rfl rfl rfl (nf hb18) ?_
        refine sl_no rfl rfl rfl (nf hb18) ?_
        refine sl_no rfl rfl rfl (nf hb18) ?_
        refine sl_v rfl (r_pt rfl (nf hb18) rfl) ?_
        refine sl_nil ?_
        exact ⟨_, true, (kp (kp (kp (kn rfl) rfl) rfl) rfl), h⟩
    · replace h := h.2 hb12
      refine sl_no rfl rfl rfl (nf hb12) ?_
      refine sl_no rfl rfl rfl (nf hb12) ?_
      refine sl_no rfl rfl rfl (nf hb12) ?_
      refine sl_v rfl (r_pt rfl (nf hb12) rfl) ?_
      refine sl_v rfl (r_mv rfl) ?_
      refine sl_no rfl rfl rfl rfl ?_
      refine sl_no rfl rfl rfl rfl ?_
      refine sl_no rfl rfl rfl rfl ?_
      refine sl_no rfl rfl rfl rfl ?_
      refine sl_v rfl (r_pt rfl rfl rfl) ?_
      refine sl_nil ?_
      exact ⟨_, true, (kp (kp (kp (kn rfl) rfl) rfl) rfl), h⟩
  ·
    obtain ⟨g5, j1, rfl, hM6⟩ := hM6
    replace h := hK3 j1 w4 hM6
    have hx : Ext w4 w4 := Chg.refl _
    refine bcases (j1) (fun hb20 => ?_) (fun hb20 => ?_)
    · replace h := h.1 hb20
      refine cw_ct rfl hb20 ?_
      refine cw_seq ?_
      refine cw_region ?_
      refine sl_v rfl (r_as rfl) ?_
      refine sl_v rfl (r_as rfl) ?_
      refine sl_nil ?_
      refine cw_ret ?_
      exact rs_2 (rt rfl) (rt rfl) ⟨0, false, rfl, h⟩
    · replace h := h.2 hb20
      refine cw_cf rfl hb20 ?_
      refine cw_skip ?_
      refine cw_seq ?_
      refine cw_region ?_
      refine sl_v rfl (r_mv rfl) ?_
      refine sl_v rfl (r_mv rfl) ?_
      obtain ⟨z21, hz21, h⟩ := h
      refine sl_v rfl (r_add rfl rfl hz21) ?_
      refine sl_v rfl (r_as rfl) ?_
      refine sl_v rfl (r_as rfl) ?_
      refine sl_nil ?_
      refine cw_ret ?_
      exact rs_2 (rt rfl) (rt rfl) ⟨z21, true, rfl, h⟩

def VC_seq_Seq_note (a0 : Option Addr) (a1 : Option Nat) (a2 : Int) (a3 : Int) (R : World → Prop) (w : World) : Prop :=
  Calls PP n_seq_Seq_pair #[.pointer a0, .int .i64 a2] w (fun e w2 => ∃ r5_0_0 : Int, ∃ r5_0_1 : Int, ∃ r5_1 : Bool, e = .returned (.tuple #[.agg #[.int .i64 r5_0_0, .int .i64 r5_0_1], .bool r5_1]) ∧ (∀ (b6 : Nat) (w7 : World), Priv w2 b6 w7 → (∀ w10 : World, Chg (fun b => b = b6) w7 w10 → ((r5_1 = true → (Calls PP n_seq_ledger_add #[.map a1, .agg #[.int .i64 r5_0_0, .int .i64 r5_0_1], .int .i64 a3] w10 (fun e w14 => e = .returned (.tuple #[]) ∧ w14.heap[b6]? = w10.heap[b6]? ∧ (R w14)))) ∧ (r5_1 = false → (R w10))))))
set_option maxRecDepth 100000 in
theorem vc_seq_Seq_note {a0 : Option Addr} {a1 : Option Nat} {a2 : Int} {a3 : Int} {R : World → Prop} {w : World} (h : VC_seq_Seq_note a0 a1 a2 a3 R w) : Calls PP n_seq_Seq_note #[.pointer a0, .map a1, .int .i64 a2, .int .i64 a3] w fun e w' => e = .returned (.tuple #[]) ∧ R w' := by
  refine Calls.mono (calls_of_cw (n := 21) (rs := #[]) (args := [.pointer a0, .map a1, .int .i64 a2, .int .i64 a3]) (R := fun v w' => v = .tuple #[] ∧ R w') Try.func89 rfl rfl (Nat.le_of_ble_eq_true rfl) rfl ?_) ?_
  case refine_2 => rintro e w' ⟨v, rfl, hr⟩; obtain ⟨rfl, hr⟩ := hr; exact ⟨rfl, hr⟩
  have hx : Ext w w := Chg.refl _
  unfold VC_seq_Seq_note at h
  refine cw_seq ?_
  refine cw_region ?_
  refine sl_v rfl (r_mv rfl) ?_
  refine sl_v rfl (r_mv rfl) ?_
  refine sl_op rfl (ok_call c_seq_Seq_pair rfl (Calls.mono h (fun e1 w2 hq3 => ?_)))
  clear h
  obtain ⟨r5_0_0, r5_0_1, r5_1, he4, h⟩ := hq3
  refine ⟨_, he4, ?_⟩
  replace hx : Ext w2 w2 := Chg.refl _
  refine sl_v rfl (r_mv rfl) ?_
  refine sl_v rfl (r_ex rfl rfl) ?_
  refine sl_v rfl (r_ex rfl rfl) ?_
  refine sl_op rfl (al_api_Pair rfl (fun b6 w7 hN8 => ?_))
  have hB9 := hN8.here
  replace h := h b6 w7 ⟨hx.tr hN8.ext, Nat.le_trans hx.size hN8.fresh, lt_of_blk hN8.here⟩
  replace hx : Ext w7 w7 := Chg.refl _
  refine sl_op rfl (st_api_Pair (vs := [.int .i64 r5_0_0, .int .i64 r5_0_1]) rfl rfl rfl rfl rfl ⟨_, _, hB9, Nat.le_of_ble_eq_true rfl⟩ (fun w10 hw11 => ?_))
  have hc_ := sto_chg hw11
  replace hB9 : w10.heap[b6]? = some (.cells #[.int .i64 r5_0_0, .int .i64 r5_0_1] t_api_Pair (0, 0)) := sto_blk hw11 hB9
  replace h := h w10 (Chg.pre hx hc_)
  replace hx : Ext w10 w10 := Chg.refl _
  clear hc_
  refine sl_v rfl (r_as rfl) ?_
  refine sl_nil ?_
  refine cw_seq ?_
  refine cw_region ?_
  refine sl_v rfl (r_mv rfl) ?_
  refine sl_nil ?_
  refine bcases (r5_1) (fun hb12 => ?_) (fun hb12 => ?_)
  · replace h := h.1 hb12
    refine cw_ct rfl hb12 ?_
    refine cw_region ?_
    refine sl_v rfl (r_mv rfl) ?_
    refine sl_v rfl (lda_api_Pair (vs := [.int .i64 r5_0_0, .int .i64 r5_0_1]) rfl rfl (.c (cell_blk hB9 rfl) (.c (cell_blk hB9 rfl) .n))) ?_
    refine sl_v rfl (r_mv rfl) ?_
    refine sl_op rfl (ok_call c_seq_ledger_add rfl (Calls.mono h (fun e13 w14 hq15 => ?_)))
    clear h
    obtain ⟨he16, hk18, h⟩ := hq15
    refine ⟨_, he16, ?_⟩
    replace hB9 := hk18.trans hB9
    replace hx : Ext w14 w14 := Chg.refl _
    refine sl_nil ?_
    exact rs_0 ⟨rfl, h⟩
  · replace h := h.2 hb12
    refine cw_cf rfl hb12 ?_
    refine cw_skip ?_
    exact rs_0 ⟨rfl, h⟩

def VC_seq_ledger_list_c1 (a0_0 : Int) (a0_1 : Int) (a0_2 : Int) (a1_0 : Int) (a1_1 : Int) (a1_2 : Int) (R : Int → World → Prop) (w : World) : Prop :=
  ∀ (b1 : Nat) (w2 : World), Priv w b1 w2 → w.drawn ≤ w2.drawn → (∀ (b5 : Nat) (w6 : World), Priv w2 b5 w6 → w2.drawn ≤ w6.drawn → (∀ w10 : World, Ext w6 w10 → w6.drawn ≤ w10.drawn → (Calls PP n_cmp_Compare_int #[.int .i64 a0_0, .int .i64 a1_0] w10 (fun e w14 => ∃ r17 : Int, e = .returned (.int .i64 r17) ∧ w14.heap[b1]? = w10.heap[b1]? ∧ w14.heap[b5]? = w10.heap[b5]? ∧ (Calls PP n_cmp_Compare_int #[.int .i64 a0_1, .int .i64 a1_1] w14 (fun e w21 => ∃ r24 : Int, e = .returned (.int .i64 r24) ∧ w21.heap[b1]? = w14.heap[b1]? ∧ w21.heap[b5]? = w14.heap[b5]? ∧ (∀ (b27 : Nat) (w28 : World), New w21 b27 (.cells #[.int .i64 r17, .int .i64 r24] t_int (0, 0)) w28 → (Calls PP n_cmp_Or_int #[.slice (some ⟨b27, 0, none⟩) 2 2] w28 (fun e w31 => ∃ r34 : Int, e = .returned (.int .i64 r34) ∧ w31.heap[b1]? = w28.heap[b1]? ∧ w31.heap[b5]? = w28.heap[b5]? ∧ (R r34 w31))))))))))
set_option maxRecDepth 100000 in
theorem vc_seq_ledger_list_c1 {a0_0 : Int} {a0_1 : Int} {a0_2 : Int} {a1_0 : Int} {a1_1 : Int} {a1_2 : Int} {R : Int → World → Prop} {w : World} (h : VC_seq_ledger_list_c1 a0_0 a0_1 a0_2 a1_0 a1_1 a1_2 R w) : Calls PP n_seq_ledger_list_c1 #[.agg #[.int .i64 a0_0, .int .i64 a0_1, .int .i64 a0_2], .agg #[.int .i64 a1_0, .int .i64 a1_1, .int .i64 a1_2]] w fun e w' => ∃ r0 : Int, e = .returned (.int .i64 r0) ∧ R r0 w' := by
  refine Calls.mono (calls_of_cw (n := 21) (rs := #[.tmp 4]) (args := [.agg #[.int .i64 a0_0, .int .i64 a0_1, .int .i64 a0_2], .agg #[.int .i64 a1_0, .int .i64 a1_1, .int .i64 a1_2]]) (R := fun v w' => ∃ r0 : Int, v = .int .i64 r0 ∧ R r0 w') Try.func91 rfl rfl (Nat.le_of_ble_eq_true rfl) rfl ?_) ?_
  case refine_2 => rintro e w' ⟨v, rfl, hr⟩; obtain ⟨r0, rfl, hr⟩ := hr; exact ⟨r0, rfl, hr⟩
  have hx : Ext w w := Chg.refl _
  unfold VC_seq_ledger_list_c1 at h
  have hdr : w.drawn ≤ w.drawn := Nat.le_refl _
  refine cw_seq ?_
  refine cw_region ?_
  refine sl_op rfl (bx_seq_Change rfl rfl (fun b1 w2 hN3 => ?_))
  have hB4 := hN3.here
  replace h := h b1 w2 ⟨hx.tr hN3.ext, Nat.le_trans hx.size hN3.fresh, lt_of_blk hN3.here⟩ (Nat.le_trans hdr hN3.dr)
  replace hx : Ext w2 w2 := Chg.refl _
  replace hdr : w2.drawn ≤ w2.drawn := Nat.le_refl _
  refine sl_op rfl (bx_seq_Change rfl rfl (fun b5 w6 hN7 => ?_))
  have hne8 : b1 ≠ b5 := Nat.ne_of_lt (Nat.lt_of_lt_of_le (lt_of_blk hB4) hN7.fresh)
  replace hB4 := hN7.ext.get hB4
  have hB9 := hN7.here
  replace h := h b5 w6 ⟨hx.tr hN7.ext, Nat.le_trans hx.size hN7.fresh, lt_of_blk hN7.here⟩ (Nat.le_trans hdr hN7.dr)
  replace hx : Ext w6 w6 := Chg.refl _
  replace hdr : w6.drawn ≤ w6.drawn := Nat.le_refl _
  refine sl_v rfl (r_as rfl) ?_
  refine sl_nil ?_
  refine cw_seq ?_
  refine cw_dw (S := fun w' => w'.cell? ⟨b1, 0, none⟩ = some (.int .i64 a0_0) ∧ w'.cell? ⟨b5, 0, none⟩ = some (.int .i64 a1_0) ∧ w'.cell? ⟨b1, 1, none⟩ = some (.int .i64 a0_1) ∧ w'.cell? ⟨b5, 1, none⟩ = some (.int .i64 a1_1) ∧ True) mo (fun w10 hd11 => ?_)
  replace hB4 := (Ext.of_drew hd11).get hB4
  replace hB9 := (Ext.of_drew hd11).get hB9
  replace hx := hx.tr (Ext.of_drew hd11)
  replace hdr := Nat.le_trans hdr (drew_le hd11)
  have hS : w10.cell? ⟨b1, 0, none⟩ = some (.int .i64 a0_0) ∧ w10.cell? ⟨b5, 0, none⟩ = some (.int .i64 a1_0) ∧ w10.cell? ⟨b1, 1, none⟩ = some (.int .i64 a0_1) ∧ w10.cell? ⟨b5, 1, none⟩ = some (.int .i64 a1_1) ∧ True := ⟨(cell_blk hB4 rfl), (cell_blk hB9 rfl), (cell_blk hB4 rfl), (cell_blk hB9 rfl), trivial⟩
  refine dw_t 0 1 rfl (by kernel_rfl) rfl hS (fun _ _ => (fa_seq_Change_0 (o' := 0) rfl rfl)) ?_
  refine dw_t 1 3 rfl (by kernel_rfl) rfl hS (fun _ _ => (fa_api_Pair_0 (o' := 0) rfl rfl)) ?_
  refine dw_t 2 7 rfl (by kernel_rfl) rfl hS (fun _ hS => (ld_int rfl hS.1)) ?_
  refine dw_t 3 15 rfl (by kernel_rfl) rfl hS (fun _ _ => (fa_seq_Change_0 (o' := 0) rfl rfl)) ?_
  refine dw_t 4 31 rfl (by kernel_rfl) rfl hS (fun _ _ => (fa_api_Pair_0 (o' := 0) rfl rfl)) ?_
  refine dw_t 5 63 rfl (by kernel_rfl) rfl hS (fun _ hS => (ld_int rfl hS.2.1)) ?_
  refine dw_t 7 191 rfl (by kernel_rfl) rfl hS (fun _ _ => (fa_seq_Change_0 (o' := 0) rfl rfl)) ?_
  refine dw_t 8 447 rfl (by kernel_rfl) rfl hS (fun _ _ => (fa_api_Pair_1 (o' := 1) rfl rfl)) ?_
  refine dw_t 9 959 rfl (by kernel_rfl) rfl hS (fun _ hS => (ld_int rfl hS.2.2.1)) ?_
  refine dw_t 10 1983 rfl (by kernel_rfl) rfl hS (fun _ _ => (fa_seq_Change_0 (o' := 0) rfl rfl)) ?_
  refine dw_t 11 4031 rfl (by kernel_rfl) rfl hS (fun _ _ => (fa_api_Pair_1 (o' := 1) rfl rfl)) ?_
  refine dw_t 12 8127 rfl (by kernel_rfl) rfl hS (fun _ hS => (ld_int rfl hS.2.2.2.1)) ?_
  replace h := h _ hx hdr
  replace hx : Ext w10 w10 := Chg.refl _
  replace hdr : w10.drawn ≤ w10.drawn := Nat.le_refl _
  refine dw_l 6 8191 rfl (by kernel_rfl) rfl (ok_call c_cmp_Compare_int rfl (Calls.mono h (fun e13 w14 hq15 => ?_)))
  clear h
  obtain ⟨r17, he16, hk18, hk19, h⟩ := hq15
  refine ⟨_, he16, ?_⟩
  replace hB4 := hk18.trans hB4
  replace hB9 := hk19.trans hB9
  replace hx : Ext w14 w14 := Chg.refl _
  have hdr : w14.drawn ≤ w14.drawn := Nat.le_refl _
  replace hS : w14.cell? ⟨b1, 0, none⟩ = some (.int .i64 a0_0) ∧ w14.cell? ⟨b5, 0, none⟩ = some (.int .i64 a1_0) ∧ w14.cell? ⟨b1, 1, none⟩ = some (.int .i64 a0_1) ∧ w14.cell? ⟨b5, 1, none⟩ = some (.int .i64 a1_1) ∧ True := ⟨(cell_blk hB4 rfl), (cell_blk hB9 rfl), (cell_blk hB4 rfl), (cell_blk hB9 rfl), trivial⟩
  refine ⟨hS, ?_⟩
  refine dw_l 13 16383 rfl (by kernel_rfl) rfl (ok_call c_cmp_Compare_int rfl (Calls.mono h (fun e20 w21 hq22 => ?_)))
  clear h
  obtain ⟨r24, he23, hk25, hk26, h⟩ := hq22
  refine ⟨_, he23, ?_⟩
  replace hB4 := hk25.trans hB4
  replace hB9 := hk26.trans hB9
  replace hx : Ext w21 w21 := Chg.refl _
  have hdr : w21.drawn ≤ w21.drawn := Nat.le_refl _
  replace hS : w21.cell? ⟨b1, 0, none⟩ = some (.int .i64 a0_0) ∧ w21.cell? ⟨b5, 0, none⟩ = some (.int .i64 a1_0) ∧ w21.cell? ⟨b1, 1, none⟩ = some (.int .i64 a0_1) ∧ w21.cell? ⟨b5, 1, none⟩ = some (.int .i64 a1_1) ∧ True := ⟨(cell_blk hB4 rfl), (cell_blk hB9 rfl), (cell_blk hB4 rfl), (cell_blk hB9 rfl), trivial⟩
  refine ⟨hS, ?_⟩
  refine dw_l 14 32767 rfl (by kernel_rfl) rfl (bs_sl_int (len := 2) (vs := [(0, .int .i64 r17), (1, .int .i64 r24)]) (cs := #[.int .i64 r17, .int .i64 r24]) (by decide) rfl rfl (fun b27 w28 hN29 => ?_))
  replace hB4 := hN29.ext.get hB4
  replace hB9 := hN29.ext.get hB9
  replace h := h b27 w28 hN29
  replace hx : Ext w28 w28 := Chg.refl _
  replace hdr : w28.drawn ≤ w28.drawn := Nat.le_refl _
  replace hS : w28.cell? ⟨b1, 0, none⟩ = some (.int .i64 a0_0) ∧ w28.cell? ⟨b5, 0, none⟩ = some (.int .i64 a1_0) ∧ w28.cell? ⟨b1, 1, none⟩ = some (.int .i64 a0_1) ∧ w28.cell? ⟨b5, 1, none⟩ = some (.int .i64 a1_1) ∧ True := ⟨(cell_blk hB4 rfl), (cell_blk hB9 rfl), (cell_blk hB4 rfl), (cell_blk hB9 rfl), trivial⟩
  refine ⟨hS, ?_⟩
  refine dw_l 15 65535 rfl (by kernel_rfl) rfl (ok_call c_cmp_Or_int rfl (Calls.mono h (fun e30 w31 hq32 => ?_)))
  clear h
  obtain ⟨r34, he33, hk35, hk36, h⟩ := hq32
  refine ⟨_, he33, ?_⟩
  replace hB4 := hk35.trans hB4
  replace hB9 := hk36.trans hB9
  replace hx : Ext w31 w31 := Chg.refl _
  have hdr : w31.drawn ≤ w31.drawn := Nat.le_refl _
  replace hS : w31.cell? ⟨b1, 0, none⟩ = some (.int .i64 a0_0) ∧ w31.cell? ⟨b5, 0, none⟩ = some (.int .i64 a1_0) ∧ w31.cell? ⟨b1, 1, none⟩ = some (.int .i64 a0_1) ∧ w31.cell? ⟨b5, 1, none⟩ = some (.int .i64 a1_1) ∧ True := ⟨(cell_blk hB4 rfl), (cell_blk hB9 rfl), (cell_blk hB4 rfl), (cell_blk hB9 rfl), trivial⟩
  refine ⟨hS, ?_⟩
  refine dw_t 16 131071 rfl (by kernel_rfl) rfl hS (fun _ _ => (r_as rfl)) ?_
  refine dw_d (by kernel_rfl) ?_
  clear hS
  refine cw_ret ?_
  exact rs_1 (rt rfl) ⟨r34, rfl, h⟩

def VC_cmp_Or_int (a0 : Sl) (R : Int → World → Prop) (w : World) : Prop :=
  ∃ (I2 : Int → World → Prop) (μ3 : Int → World → Nat), I2 0 w ∧ ∀ (l1 : Int) (w5 : World), I2 l1 w5 → ((l1 < ((a0.n : Nat) : Int) → (∃ k9 : Nat, l1 = ((k9 : Nat) : Int) ∧ k9 < a0.n ∧ (∃ (b11 o12 : Nat), a0.b = some ⟨b11, o12, none⟩ ∧ (∃ v14 : Int, w5.cell? ⟨b11, o12 + k9 * 1, none⟩ = some (.int .i64 v14) ∧ ((v14 ≠ (0 : Int) → (R v14 w5)) ∧ (¬ (v14 ≠ (0 : Int)) → (∃ z17 : Int, z17 = IntKind.wrap .i64 (((k9 : Nat) : Int) + 1) ∧ (I2 z17 w5 ∧ μ3 z17 w5 < μ3 l1 w5)))))))) ∧ (¬ (l1 < ((a0.n : Nat) : Int)) → (R 0 w5)))
set_option maxRecDepth 100000 in
theorem vc_cmp_Or_int {a0 : Sl} {R : Int → World → Prop} {w : World} (h : VC_cmp_Or_int a0 R w) : Calls PP n_cmp_Or_int #[a0.v] w fun e w' => ∃ r0 : Int, e = .returned (.int .i64 r0) ∧ R r0 w' := by
  refine Calls.mono (calls_of_cw (n := 18) (rs := #[.tmp 2]) (args := [a0.v]) (R := fun v w' => ∃ r0 : Int, v = .int .i64 r0 ∧ R r0 w') Try.func92 rfl rfl (Nat.le_of_ble_eq_true rfl) rfl ?_) ?_
  case refine_2 => rintro e w' ⟨v, rfl, hr⟩; obtain ⟨r0, rfl, hr⟩ := hr; exact ⟨r0, rfl, hr⟩
  have hx : Ext w w := Chg.refl _
  unfold VC_cmp_Or_int at h
  refine cw_seq ?_
  refine cw_region ?_
  refine sl_v rfl (r_as rfl) ?_
  refine sl_nil ?_
  refine cw_seq ?_
  refine cw_region ?_
  refine sl_v rfl (r_as rfl) ?_
  refine sl_nil ?_
  refine cw_seq ?_
  refine cw_seq ?_
  refine cw_region ?_
  refine sl_v rfl (r_mv rfl) ?_
  refine sl_v rfl (r_len_l (s := a0) rfl rfl Try.underlying58) ?_
  refine sl_v rfl (r_mv rfl) ?_
  refine sl_nil ?_
  refine cw_block ?_
  obtain ⟨I2, μ3, hI4, h⟩ := h
  refine cw_loop (σ := Int) (fun s g => (upd (upd (upd (upd (nm g []) 3 (.int .i64 0)) 6 (a0.v)) 7 (.int .i64 ((a0.n : Nat) : Int))) 8 (.int .i64 s))) (fun s w => I2 s w) (fun s w => μ3 s w) (0) _ (kp (kp (kp (kp (kn rfl) rfl) rfl) rfl) rfl) hI4 ?_
  rintro l1 g6 w5 hi7
  replace h := h l1 w5 hi7
  have hx : Ext w5 w5 := Chg.refl _
  change CW _ PP _ _ _ (upd (upd (upd (upd (nm g6 []) 3 (.int .i64 0)) 6 (a0.v)) 7 (.int .i64 ((a0.n : Nat) : Int))) 8 (.int .i64 l1)) _
  refine cw_seq ?_
  refine cw_region ?_
  refine sl_v rfl (r_lss rfl rfl) ?_
  refine sl_nil ?_
  refine cw_seq ?_
  refine bcases (decide (l1 < ((a0.n : Nat) : Int))) (fun hb8 => ?_) (fun hb8 => ?_)
  · replace h := h.1 (of_decide_eq_true hb8)
    refine cw_ct rfl hb8 ?_
    refine cw_skip ?_
    refine cw_seq ?_
    refine cw_block ?_
    refine cw_seq ?_
    refine cw_region ?_
    obtain ⟨k9, rfl, hk10, h⟩ := h
    obtain ⟨b11, o12, hb13, h⟩ := h
    refine sl_v rfl (ia_sl_int (s := a0) (j := k9) (o' := o12 + k9 * 1) rfl rfl hk10 hb13 rfl) ?_
    obtain ⟨v14, hc15, h⟩ := h
    refine sl_v rfl (ld_int rfl hc15) ?_
    refine sl_v rfl (r_as rfl) ?_
    refine sl_nil ?_
    refine cw_seq ?_
    refine cw_region ?_
    refine sl_v rfl (r_mv rfl) ?_
    refine sl_v rfl (r_mv rfl) ?_
    refine sl_v rfl (r_neq rfl rfl) ?_
    refine sl_nil ?_
    refine bcases (decide (v14 ≠ (0 : Int))) (fun hb16 => ?_) (fun hb16 => ?_)
    · replace h := h.1 (of_decide_eq_true hb16)
      refine cw_ct rfl hb16 ?_
      refine cw_seq ?_
      refine cw_region ?_
      refine sl_v rfl (r_mv rfl) ?_
      refine sl_v rfl (r_as rfl) ?_
      refine sl_nil ?_
      refine cw_ret ?_
      exact rs_1 (rt rfl) ⟨v14, rfl, h⟩
    · replace h := h.2 (of_decide_eq_false hb16)
      refine cw_cf rfl hb16 ?_
      refine cw_skip ?_
      refine cw_region ?_
      obtain ⟨z17, hz17, h⟩ := h
      refine sl_v rfl (r_add rfl rfl hz17) ?_
      refine sl_v rfl (r_mv rfl) ?_
      refine sl_nil ?_
      exact ⟨(z17), _, (kp (kp (kp (kp (kn rfl) rfl) rfl) rfl) rfl), h.1, h.2⟩
  · replace h := h.2 (of_decide_eq_false hb8)
    refine cw_cf rfl hb8 ?_
    refine cw_exit ?_
    refine cw_seq ?_
    refine cw_region ?_
    refine sl_v rfl (r_mv rfl) ?_
    refine sl_v rfl (r_as rfl) ?_
    refine sl_nil ?_
    refine cw_ret ?_
    exact rs_1 (rt rfl) ⟨0, rfl, h⟩

def VC_cmp_Compare_int (a0 : Int) (a1 : Int) (R : Int → World → Prop) (w : World) : Prop :=
  Calls PP n_cmp_isNaN_int #[.int .i64 a0] w (fun e w2 => ∃ r5 : Bool, e = .returned (.bool r5) ∧ (Calls PP n_cmp_isNaN_int #[.int .i64 a1] w2 (fun e w7 => ∃ r10 : Bool, e = .returned (.bool r10) ∧ ((r5 = true → ((r10 = true → (R 0 w7)) ∧ (r10 = false → (R (-1) w7)))) ∧ (r5 = false → ((r10 = true → (R 1 w7)) ∧ (r10 = false → ((a0 < a1 → (R (-1) w7)) ∧ (¬ (a0 < a1) → ((a1 < a0 → (R 1 w7)) ∧ (¬ (a1 < a0) → (R 0 w7))))))))))))
set_option maxRecDepth 100000 in
theorem vc_cmp_Compare_int {a0 : Int} {a1 : Int} {R : Int → World → Prop} {w : World} (h : VC_cmp_Compare_int a0 a1 R w) : Calls PP n_cmp_Compare_int #[.int .i64 a0, .int .i64 a1] w fun e w' => ∃ r0 : Int, e = .returned (.int .i64 r0) ∧ R r0 w' := by
  refine Calls.mono (calls_of_cw (n := 20) (rs := #[.tmp 4]) (args := [.int .i64 a0, .int .i64 a1]) (R := fun v w' => ∃ r0 : Int, v = .int .i64 r0 ∧ R r0 w') Try.func93 rfl rfl (Nat.le_of_ble_eq_true rfl) rfl ?_) ?_
  case refine_2 => rintro e w' ⟨v, rfl, hr⟩; obtain ⟨r0, rfl, hr⟩ := hr; exact ⟨r0, rfl, hr⟩
  have hx : Ext w w := Chg.refl _
  unfold VC_cmp_Compare_int at h
  refine cw_seq ?_
  refine cw_region ?_
  refine sl_v rfl (r_as rfl) ?_
  refine sl_nil ?_
  refine cw_seq ?_
  refine cw_region ?_
  refine sl_v rfl (r_mv rfl) ?_
  refine sl_op rfl (ok_call c_cmp_isNaN_int rfl (Calls.mono h (fun e1 w2 hq3 => ?_)))
  clear h
  obtain ⟨r5, he4, h⟩ := hq3
  refine ⟨_, he4, ?_⟩
  replace hx : Ext w2 w2 := Chg.refl _
  refine sl_v rfl (r_as rfl) ?_
  refine sl_nil ?_
  refine cw_seq ?_
  refine cw_region ?_
  refine sl_v rfl (r_mv rfl) ?_
  refine sl_op rfl (ok_call c_cmp_isNaN_int rfl (Calls.mono h (fun e6 w7 hq8 => ?_)))
  clear h
  obtain ⟨r10, he9, h⟩ := hq8
  refine ⟨_, he9, ?_⟩
  replace hx : Ext w7 w7 := Chg.refl _
  refine sl_v rfl (r_as rfl) ?_
  refine sl_nil ?_
  refine cw_seq ?_
  refine cw_seq ?_
  refine cw_region ?_
  refine sl_v rfl (r_mv rfl) ?_
  refine sl_nil ?_
  refine bcases (r5) (fun hb11 => ?_) (fun hb11 => ?_)
  · replace h := h.1 hb11
    refine cw_ct rfl hb11 ?_
    refine cw_seq ?_
    refine cw_seq ?_
    refine cw_region ?_
    refine sl_v rfl (r_mv rfl) ?_
    refine sl_nil ?_
    refine bcases (r10) (fun hb12 => ?_) (fun hb12 => ?_)
    · replace h := h.1 hb12
      refine cw_ct rfl hb12 ?_
      refine cw_seq ?_
      refine cw_region ?_
      refine sl_v rfl (r_as rfl) ?_
      refine sl_nil ?_
      refine cw_ret ?_
      exact rs_1 (rt rfl) ⟨0, rfl, h⟩
    · replace h := h.2 hb12
      refine cw_cf rfl hb12 ?_
      refine cw_skip ?_
      refine cw_seq ?_
      refine cw_region ?_
      refine sl_v rfl (r_as rfl) ?_
      refine sl_nil ?_
      refine cw_ret ?_
      exact rs_1 (rt rfl) ⟨(-1), rfl, h⟩
  · replace h := h.2 hb11
    refine cw_cf rfl hb11 ?_
    refine cw_skip ?_
    refine cw_seq ?_
    refine cw_seq ?_
    refine cw_region ?_
    refine sl_v rfl (r_mv rfl) ?_
    refine sl_nil ?_
    refine bcases (r10) (fun hb13 => ?_) (fun hb13 => ?_)
    · replace h := h.1 hb13
      refine cw_ct rfl hb13 ?_
      refine cw_seq ?_
      refine cw_region ?_
      refine sl_v rfl (r_as rfl) ?_
      refine sl_nil ?_
      refine cw_ret ?_
      exact rs_1 (rt rfl) ⟨1, rfl, h⟩
    · replace h := h.2 hb13
      refine cw_cf rfl hb13 ?_
      refine cw_skip ?_
      refine cw_seq ?_
      refine cw_seq ?_
      refine cw_region ?_
      refine sl_v rfl (r_mv rfl) ?_
      refine sl_v rfl (r_mv rfl) ?_
      refine sl_v rfl (r_lss rfl rfl) ?_
      refine sl_nil ?_
      refine bcases (decide (a0 < a1)) (fun hb14 => ?_) (fun hb14 => ?_)
      · replace h := h.1 (of_decide_eq_true hb14)
        refine cw_ct rfl hb14 ?_
        refine cw_seq ?_
        refine cw_region ?_
        refine sl_v rfl (r_as rfl) ?_
        refine sl_nil ?_
        refine cw_ret ?_
        exact rs_1 (rt rfl) ⟨(-1), rfl, h⟩
      · replace h := h.2 (of_decide_eq_false hb14)
        refine cw_cf rfl hb14 ?_
        refine cw_skip ?_
        refine cw_seq ?_
        refine cw_seq ?_
        refine cw_region ?_
        refine sl_v rfl (r_mv rfl) ?_
        refine sl_v rfl (r_mv rfl) ?_
        refine sl_v rfl (r_gtr rfl rfl) ?_
        refine sl_nil ?_
        refine bcases (decide (a1 < a0)) (fun hb15 => ?_) (fun hb15 => ?_)
        · replace h := h.1 (of_decide_eq_true hb15)
          refine cw_ct rfl hb15 ?_
          refine cw_seq ?_
          refine cw_region ?_
          refine sl_v rfl (r_as rfl) ?_
          refine sl_nil ?_
          refine cw_ret ?_
          exact rs_1 (rt rfl) ⟨1, rfl, h⟩
        · replace h := h.2 (of_decide_eq_false hb15)
          refine cw_cf rfl hb15 ?_
          refine cw_skip ?_
          refine cw_seq ?_
          refine cw_region ?_
          refine sl_v rfl (r_as rfl) ?_
          refine sl_nil ?_
          refine cw_ret ?_
          exact rs_1 (rt rfl) ⟨0, rfl, h⟩

def VC_seq_ledger_add (a0 : Option Nat) (a1_0 : Int) (a1_1 : Int) (a2 : Int) (R : World → Prop) (w : World) : Prop :=
  ∀ (b1 : Nat) (w2 : World), Priv w b1 w2 → (∃ K5 : World → Prop, (∀ (w7 : World), K5 w7 → (∃ es53 : List ((Int × Int) × Int), Mp pairV intV w7 a0 es53 ∧ (∃ z55 : Int, z55 = (mget (a1_0, a1_1) es53).getD 0 ∧ ((z55 = (0 : Int) → (∃ es61 : List ((Int × Int) × Int), Mp pairV intV w7 a0 es61 ∧ (a0 ≠ some b1 ∧ (∀ w57 : World, Mp pairV intV w57 a0 (mdel (a1_0, a1_1) es61) → Chg (fun x => a0 = some x) w7 w57 → (R w57))))) ∧ (¬ (z55 = (0 : Int)) → (R w7)))))) ∧ ((∃ es12 : List ((Int × Int) × Int), Mp pairV intV w2 a0 es12 ∧ (∃ z14 : Int, z14 = (mget (a1_0, a1_1) es12).getD 0 ∧ (∃ z15 : Int, z15 = IntKind.wrap .i64 (z14 + a2) ∧ (∀ w10 : World, Ext w2 w10 → (∃ b22 : Nat, a0 = some b22 ∧ (∃ es23 : List ((Int × Int) × Int), Mp pairV intV w10 (some b22) es23 ∧ (b1 ≠ b22 ∧ (∀ (w17 : World) (st18 : Int), MpE pairV intV w17 b22 (mput (a1_0, a1_1) ((mget (a1_0, a1_1) es23).getD 0) es23) (a1_0, a1_1) st18 → Chg (fun x => x = b22) w10 w17 → (∃ (es29 : List ((Int × Int) × Int)) (ka30 : (Int × Int)), MpE pairV intV w17 b22 es29 ka30 st18 ∧ (b1 ≠ b22 ∧ (∀ w25 : World, Mp pairV intV w25 (some b22) (mput ka30 z15 es29) → Chg (fun x => x = b22) w17 w25 → (K5 w25)))))))))))) ∧ (∀ w10 : World, Ext w2 w10 → (∃ b38 : Nat, a0 = some b38 ∧ (∃ es39 : List ((Int × Int) × Int), Mp pairV intV w10 (some b38) es39 ∧ (b1 ≠ b38 ∧ (∀ (w33 : World) (st34 : Int), MpE pairV intV w33 b38 (mput (a1_0, a1_1) ((mget (a1_0, a1_1) es39).getD 0) es39) (a1_0, a1_1) st34 → Chg (fun x => x = b38) w10 w33 → (∃ es41 : List ((Int × Int) × Int), Mp pairV intV w33 (some b38) es41 ∧ (∃ z43 : Int, z43 = (mget (a1_0, a1_1) es41).getD 0 ∧ (∃ z44 : Int, z44 = IntKind.wrap .i64 (z43 + a2) ∧ (∃ (es49 : List ((Int × Int) × Int)) (ka50 : (Int × Int)), MpE pairV intV w33 b38 es49 ka50 st34 ∧ (b1 ≠ b38 ∧ (∀ w45 : World, Mp pairV intV w45 (some b38) (mput ka50 z44 es49) → Chg (fun x => x = b38) w33 w45 → (K5 w45))))))))))))))
set_option maxRecDepth 100000 in
theorem vc_seq_ledger_add {a0 : Option Nat} {a1_0 : Int} {a1_1 : Int} {a2 : Int} {R : World → Prop} {w : World} (h : VC_seq_ledger_add a0 a1_0 a1_1 a2 R w) : Calls PP n_seq_ledger_add #[.map a0, .agg #[.int .i64 a1_0, .int .i64 a1_1], .int .i64 a2] w fun e w' => e = .returned (.tuple #[]) ∧ R w' := by
  refine Calls.mono (calls_of_cw (n := 19) (rs := #[]) (args := [.map a0, .agg #[.int .i64 a1_0, .int .i64 a1_1], .int .i64 a2]) (R := fun v w' => v = .tuple #[] ∧ R w') Try.func105 rfl rfl (Nat.le_of_ble_eq_true rfl) rfl ?_) ?_
  case refine_2 => rintro e w' ⟨v, rfl, hr⟩; obtain ⟨rfl, hr⟩ := hr; exact ⟨rfl, hr⟩
  have hx : Ext w w := Chg.refl _
  unfold VC_seq_ledger_add at h
  refine cw_seq ?_
  refine cw_region ?_
  refine sl_op rfl (bx_api_Pair rfl rfl (fun b1 w2 hN3 => ?_))
  have hB4 := hN3.here
  replace h := h b1 w2 ⟨hx.tr hN3.ext, Nat.le_trans hx.size hN3.fresh, lt_of_blk hN3.here⟩
  replace hx : Ext w2 w2 := Chg.refl _
  refine sl_nil ?_
  obtain ⟨K5, hK6, h⟩ := h
  refine cw_mid (fun f w => ∃ (g : Env), f = (upd (upd (nm g []) 0 (.map a0)) 4 (.pointer (some ⟨b1, 0, none⟩))) ∧ w.heap[b1]? = some (.cells #[.int .i64 a1_0, .int .i64 a1_1] t_api_Pair (0, 0)) ∧ K5 w) ?_ (fun _ w7 hM9 => ?_)
  ·
    refine cw_dw (S := fun w' => Cells w' b1 0 [.int .i64 a1_0, .int .i64 a1_1] ∧ True) mo (fun w10 hd11 => ?_)
    replace hB4 := (Ext.of_drew hd11).get hB4
    replace hx := hx.tr (Ext.of_drew hd11)
    have hS : Cells w10 b1 0 [.int .i64 a1_0, .int .i64 a1_1] ∧ True := ⟨(.c (cell_blk hB4 rfl) (.c (cell_blk hB4 rfl) .n)), trivial⟩
    refine dw_t 0 1 rfl (by kernel_rfl) rfl hS (fun _ _ => (r_mv rfl)) ?_
    refine dw_t 1 3 rfl (by kernel_rfl) rfl hS (fun _ hS => (lda_api_Pair (vs := [.int .i64 a1_0, .int .i64 a1_1]) rfl rfl hS.1)) ?_
    refine dw_t 3 11 rfl (by kernel_rfl) rfl hS (fun _ _ => (r_mv rfl)) ?_
    refine dw_two 2 5 15 43 rfl rfl (by kernel_rfl) rfl rfl ?_ ?_
    · replace h := h.1
      obtain ⟨es12, hm13, h⟩ := h
      obtain ⟨z14, hz14, h⟩ := h
      refine ok_v (RV.cast (v' := .int .i64 z14) (by subst hz14; rfl) (lk_seq_ledger (a := (a1_0, a1_1)) rfl rfl (Mp.ext hx hm13))) ⟨hS, ?_⟩
      obtain ⟨z15, hz15, h⟩ := h
      refine dw_t 4 31 rfl (by kernel_rfl) rfl hS (fun _ _ => (r_add rfl rfl hz15)) ?_
      replace h := h _ hx
      replace hx : Ext w10 w10 := Chg.refl _
      obtain ⟨b22, rfl, h⟩ := h
      obtain ⟨es23, hm21, h⟩ := h
      obtain ⟨hn24, h⟩ := h
      refine dw_l 5 63 rfl (by kernel_rfl) rfl (me_seq_ledger (a := (a1_0, a1_1)) rfl rfl hm21 (fun w17 st18 hq19 hc20 => ?_))
      replace hB4 := hc20.get hB4 hn24
      replace h := h w17 st18 hq19 hc20
      replace hx : Ext w17 w17 := Chg.refl _
      replace hS : Cells w17 b1 0 [.int .i64 a1_0, .int .i64 a1_1] ∧ True := ⟨(.c (cell_blk hB4 rfl) (.c (cell_blk hB4 rfl) .n)), trivial⟩
      refine ⟨hS, ?_⟩
      refine dw_t 6 127 rfl (by kernel_rfl) rfl hS (fun _ _ => (r_ex rfl rfl)) ?_
      obtain ⟨es29, ka30, hm28, h⟩ := h
      obtain ⟨hn31, h⟩ := h
      refine dw_l 7 255 rfl (by kernel_rfl) rfl (es_seq_ledger (c := z15) rfl rfl rfl hm28 (fun w25 hq26 hc27 => ?_))
      replace hB4 := hc27.get hB4 hn31
      replace h := h w25 hq26 hc27
      replace hx : Ext w25 w25 := Chg.refl _
      replace hS : Cells w25 b1 0 [.int .i64 a1_0, .int .i64 a1_1] ∧ True := ⟨(.c (cell_blk hB4 rfl) (.c (cell_blk hB4 rfl) .n)), trivial⟩
      refine ⟨hS, ?_⟩
      refine dw_d (by kernel_rfl) ?_
      clear hS
      exact ⟨_, (kp (kp (kn rfl) rfl) rfl), hB4, h⟩
    · replace h := h.2
      replace h := h _ hx
      replace hx : Ext w10 w10 := Chg.refl _
      obtain ⟨b38, rfl, h⟩ := h
      obtain ⟨es39, hm37, h⟩ := h
      obtain ⟨hn40, h⟩ := h
      refine me_seq_ledger (a := (a1_0, a1_1)) rfl rfl hm37 (fun w33 st34 hq35 hc36 => ?_)
      replace hB4 := hc36.get hB4 hn40
      replace h := h w33 st34 hq35 hc36
      replace hx : Ext w33 w33 := Chg.refl _
      replace hS : Cells w33 b1 0 [.int .i64 a1_0, .int .i64 a1_1] ∧ True := ⟨(.c (cell_blk hB4 rfl) (.c (cell_blk hB4 rfl) .n)), trivial⟩
      refine ⟨hS, ?_⟩
      refine dw_t 6 107 rfl (by kernel_rfl) rfl hS (fun _ _ => (r_ex rfl rfl)) ?_
      obtain ⟨es41, hm42, h⟩ := h
      obtain ⟨z43, hz43, h⟩ := h
      refine dw_l 2 111 rfl (by kernel_rfl) rfl (ok_v (RV.cast (v' := .int .i64 z43) (by subst hz43; rfl) (lk_seq_ledger (a := (a1_0, a1_1)) rfl rfl hm42)) ⟨hS, ?_⟩)
      obtain ⟨z44, hz44, h⟩ := h
      refine dw_t 4 127 rfl (by kernel_rfl) rfl hS (fun _ _ => (r_add rfl rfl hz44)) ?_
      obtain ⟨es49, ka50, hm48, h⟩ := h
      obtain ⟨hn51, h⟩ := h
      refine dw_l 7 255 rfl (by kernel_rfl) rfl (es_seq_ledger (c := z44) rfl rfl rfl hm48 (fun w45 hq46 hc47 => ?_))
      replace hB4 := hc47.get hB4 hn51
      replace h := h w45 hq46 hc47
      replace hx : Ext w45 w45 := Chg.refl _
      replace hS : Cells w45 b1 0 [.int .i64 a1_0, .int .i64 a1_1] ∧ True := ⟨(.c (cell_blk hB4 rfl) (.c (cell_blk hB4 rfl) .n)), trivial⟩
      refine ⟨hS, ?_⟩
      refine dw_d (by kernel_rfl) ?_
      clear hS
      exact ⟨_, (kp (kp (kn rfl) rfl) rfl), hB4, h⟩
  ·
    obtain ⟨g8, rfl, hB52, hM9⟩ := hM9
    replace h := hK6 w7 hM9
    have hx : Ext w7 w7 := Chg.refl _
    refine cw_seq ?_
    refine cw_region ?_
    refine sl_v rfl (r_mv rfl) ?_
    refine sl_v rfl (lda_api_Pair (vs := [.int .i64 a1_0, .int .i64 a1_1]) rfl rfl (.c (cell_blk hB52 rfl) (.c (cell_blk hB52 rfl) .n))) ?_
    obtain ⟨es53, hm54, h⟩ := h
    obtain ⟨z55, hz55, h⟩ := h
    refine sl_v rfl (RV.cast (v' := .int .i64 z55) (by subst hz55; rfl) (lk_seq_ledger (a := (a1_0, a1_1)) rfl rfl hm54)) ?_
    refine sl_v rfl (r_eql rfl rfl) ?_
    refine sl_nil ?_
    refine bcases (decide (z55 = (0 : Int))) (fun hb56 => ?_) (fun hb56 => ?_)
    · replace h := h.1 (of_decide_eq_true hb56)
      refine cw_ct rfl hb56 ?_
      refine cw_region ?_
      refine sl_v rfl (r_mv rfl) ?_
      refine sl_v rfl (lda_api_Pair (vs := [.int .i64 a1_0, .int .i64 a1_1]) rfl rfl (.c (cell_blk hB52 rfl) (.c (cell_blk hB52 rfl) .n))) ?_
      obtain ⟨es61, hm60, h⟩ := h
      obtain ⟨hn62, h⟩ := h
      refine sl_op rfl (de_seq_ledger (a := (a1_0, a1_1)) rfl rfl hm60 (fun w57 hq58 hc59 => ?_))
      replace hB52 := hc59.get hB52 hn62
      replace h := h w57 hq58 hc59
      replace hx : Ext w57 w57 := Chg.refl _
      refine sl_nil ?_
      exact rs_0 ⟨rfl, h⟩
    · replace h := h.2 (of_decide_eq_false hb56)
      refine cw_cf rfl hb56 ?_
      refine cw_skip ?_
      exact rs_0 ⟨rfl, h⟩

def VC_cmp_isNaN_int (a0 : Int) (R : Bool → World → Prop) (w : World) : Prop :=
  R (decide (a0 ≠ a0)) w
set_option maxRecDepth 100000 in
theorem vc_cmp_isNaN_int {a0 : Int} {R : Bool → World → Prop} {w : World} (h : VC_cmp_isNaN_int a0 R w) : Calls PP n_cmp_isNaN_int #[.int .i64 a0] w fun e w' => ∃ r0 : Bool, e = .returned (.bool r0) ∧ R r0 w' := by
  refine Calls.mono (calls_of_cw (n := 6) (rs := #[.tmp 2]) (args := [.int .i64 a0]) (R := fun v w' => ∃ r0 : Bool, v = .bool r0 ∧ R r0 w') Try.func107 rfl rfl (Nat.le_of_ble_eq_true rfl) rfl ?_) ?_
  case refine_2 => rintro e w' ⟨v, rfl, hr⟩; obtain ⟨r0, rfl, hr⟩ := hr; exact ⟨r0, rfl, hr⟩
  have hx : Ext w w := Chg.refl _
  unfold VC_cmp_isNaN_int at h
  refine cw_seq ?_
  refine cw_region ?_
  refine sl_v rfl (r_as rfl) ?_
  refine sl_nil ?_
  refine cw_seq ?_
  refine cw_region ?_
  refine sl_v rfl (r_mv rfl) ?_
  refine sl_v rfl (r_mv rfl) ?_
  refine sl_v rfl (r_neq rfl rfl) ?_
  refine sl_v rfl (r_as rfl) ?_
  refine sl_nil ?_
  refine cw_ret ?_
  exact rs_1 (rt rfl) ⟨decide (a0 ≠ a0), rfl, h⟩

end Go.Proofs.Ytchjcjocihckpaa.G
