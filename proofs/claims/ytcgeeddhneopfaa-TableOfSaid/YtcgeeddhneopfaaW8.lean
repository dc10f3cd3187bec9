/- What is to be shown of each function, and that it is enough. -/
import Derived.Test.YtcgeeddhneopfaaT
set_option linter.unusedVariables false
namespace Go.Proofs.Ytcgeeddhneopfaa.G
open Go Go.RowKit
def VC_ref06_Mul (a0 : Int) (a1 : Int) (R : Int → Bool → World → Prop) (w : World) : Prop :=
  ∃ K2 : Bool → World → Prop, (∀ (j1 : Bool) (w4 : World), K2 j1 w4 → ((j1 = true → (R 0 false w4)) ∧ (j1 = false → (∃ K10 : Bool → World → Prop, (∀ (j9 : Bool) (w12 : World), K10 j9 w12 → ((j9 = true → (R 0 false w12)) ∧ (j9 = false → (∃ z19 : Int, z19 = IntKind.wrap .i64 (a0 * a1) ∧ (R z19 true w12))))) ∧ (((0 : Int) < a1 → (a1 ≠ 0 ∧ (∃ z16 : Int, z16 = IntKind.wrap .i64 (Int.tdiv 9223372036854775807 a1) ∧ (K10 (decide (z16 < a0)) w4)))) ∧ (¬ ((0 : Int) < a1) → (K10 false w4))))))) ∧ ((a0 < (0 : Int) → (K2 true w)) ∧ (¬ (a0 < (0 : Int)) → (K2 (decide (a1 < (0 : Int))) w)))
set_option maxRecDepth 100000 in
theorem vc_ref06_Mul {a0 : Int} {a1 : Int} {R : Int → Bool → World → Prop} {w : World} (h : VC_ref06_Mul a0 a1 R w) : Calls PP n_ref06_Mul #[.int .i64 a0, .int .i64 a1] w fun e w' => ∃ r0 : Int, ∃ r1 : Bool, e = .returned (.tuple #[.int .i64 r0, .bool r1]) ∧ R r0 r1 w' := by
  refine Calls.mono (calls_of_cw (n := 23) (rs := #[.tmp 4, .tmp 5]) (args := [.int .i64 a0, .int .i64 a1]) (R := fun v w' => ∃ r0 : Int, ∃ r1 : Bool, v = .tuple #[.int .i64 r0, .bool r1] ∧ R r0 r1 w') Try.func94 rfl rfl (Nat.le_of_ble_eq_true rfl) rfl ?_) ?_
  case refine_2 => rintro e w' ⟨v, rfl, hr⟩; obtain ⟨r0, r1, rfl, hr⟩ := hr; exact ⟨r0, r1, rfl, hr⟩
  have hx : Ext w w := Chg.refl _
  unfold VC_ref06_Mul at h
  refine cw_seq ?_
  refine cw_region ?_
  refine sl_v rfl (r_as rfl) ?_
  refine sl_v rfl (r_as rfl) ?_
  refine sl_nil ?_
  refine cw_seq ?_
  obtain ⟨K2, hK3, h⟩ := h
  refine cw_mid (fun f w => ∃ (g : Env) (j1 : Bool), f = (upd (upd (upd g 0 (.int .i64 a0)) 1 (.int .i64 a1)) 11 (.bool j1)) ∧ K2 j1 w) ?_ (fun _ w4 hM6 => ?_)
  ·
    refine cw_region ?_
    refine sl_v rfl (r_mv rfl) ?_
    refine sl_v rfl (r_lss rfl rfl) ?_
    refine sl_v rfl (r_mv rfl) ?_
    refine bcases (decide (a0 < (0 : Int))) (fun hb7 => ?_) (fun hb7 => ?_)
    · replace h := h.1 (of_decide_eq_true hb7)
      refine sl_no rfl rfl rfl hb7 ?_
      refine sl_no rfl rfl rfl hb7 ?_
      refine sl_v rfl (r_pt rfl hb7 rfl) ?_
      refine sl_nil ?_
      exact ⟨_, true, (kp (kp (kp rfl rfl) rfl) rfl), h⟩
    · replace h := h.2 (of_decide_eq_false hb7)
      refine sl_vg rfl rfl rfl hb7 (r_mv rfl) ?_
      refine sl_vg rfl rfl rfl hb7 (r_lss rfl rfl) ?_
      refine sl_v rfl (r_pf rfl hb7 rfl) ?_
      refine sl_nil ?_
      exact ⟨_, decide (a1 < (0 : Int)), (kp (kp (kp rfl rfl) rfl) rfl), h⟩
  ·
    obtain ⟨g5, j1, rfl, hM6⟩ := hM6
    replace h := hK3 j1 w4 hM6
    have hx : Ext w4 w4 := Chg.refl _
    refine bcases (j1) (fun hb8 => ?_) (fun hb8 => ?_)
    · replace h := h.1 hb8
      refine cw_ct rfl hb8 ?_
      refine cw_seq ?_
      refine cw_region ?_
      refine sl_v rfl (r_as rfl) ?_
      refine sl_v rfl (r_as rfl) ?_
      refine sl_nil ?_
      refine cw_ret ?_
      exact rs_2 (rt rfl) (rt rfl) ⟨0, false, rfl, h⟩
    · replace h := h.2 hb8
      refine cw_cf rfl hb8 ?_
      refine cw_skip ?_
      refine cw_seq ?_
      obtain ⟨K10, hK11, h⟩ := h
      refine cw_mid (fun f w => ∃ (g : Env) (j9 : Bool), f = (upd (upd (upd g 0 (.int .i64 a0)) 1 (.int .i64 a1)) 19 (.bool j9)) ∧ K10 j9 w) ?_ (fun _ w12 hM14 => ?_)
      ·
        refine cw_region ?_
        refine sl_v rfl (r_mv rfl) ?_
        refine sl_v rfl (r_gtr rfl rfl) ?_
        refine sl_v rfl (r_mv rfl) ?_
        refine bcases (decide ((0 : Int) < a1)) (fun hb15 => ?_) (fun hb15 => ?_)
        · replace h := h.1 (of_decide_eq_true hb15)
          refine sl_vg rfl rfl rfl hb15 (r_mv rfl) ?_
          refine sl_vg rfl rfl rfl hb15 (r_mv rfl) ?_
          obtain ⟨hj17, z16, hz16, h⟩ := h
          refine sl_vg rfl rfl rfl hb15 (r_quo rfl rfl hj17 hz16) ?_
          refine sl_vg rfl rfl rfl hb15 (r_gtr rfl rfl) ?_
          refine sl_v rfl (r_pt rfl hb15 rfl) ?_
          refine sl_nil ?_
          exact ⟨_, decide (z16 < a0), (kp (kp (kp rfl rfl) rfl) rfl), h⟩
        · replace h := h.2 (of_decide_eq_false hb15)
          refine sl_no rfl rfl rfl hb15 ?_
          refine sl_no rfl rfl rfl hb15 ?_
          refine sl_no rfl rfl rfl hb15 ?_
          refine sl_no rfl rfl rfl hb15 ?_
          refine sl_v rfl (r_pf rfl hb15 rfl) ?_
          refine sl_nil ?_
          exact ⟨_, false, (kp (kp (kp rfl rfl) rfl) rfl), h⟩
      ·
        obtain ⟨g13, j9, rfl, hM14⟩ := hM14
        replace h := hK11 j9 w12 hM14
        have hx : Ext w12 w12 := Chg.refl _
        refine bcases (j9) (fun hb18 => ?_) (fun hb18 => ?_)
        · replace h := h.1 hb18
          refine cw_ct rfl hb18 ?_
          refine cw_seq ?_
          refine cw_region ?_
          refine sl_v rfl (r_as rfl) ?_
          refine sl_v rfl (r_as rfl) ?_
          refine sl_nil ?_
          refine cw_ret ?_
          exact rs_2 (rt rfl) (rt rfl) ⟨0, false, rfl, h⟩
        · replace h := h.2 hb18
          refine cw_cf rfl hb18 ?_
          refine cw_skip ?_
          refine cw_seq ?_
          refine cw_region ?_
          refine sl_v rfl (r_mv rfl) ?_
          refine sl_v rfl (r_mv rfl) ?_
          obtain ⟨z19, hz19, h⟩ := h
          refine sl_v rfl (r_mul rfl rfl hz19) ?_
          refine sl_v rfl (r_as rfl) ?_
          refine sl_v rfl (r_as rfl) ?_
          refine sl_nil ?_
          refine cw_ret ?_
          exact rs_2 (rt rfl) (rt rfl) ⟨z19, true, rfl, h⟩

def VC_seq_Seq_Pairs (a0 : Option Addr) (R : Sl → World → Prop) (w : World) : Prop :=
  (a0 = none → (R (⟨none, 0, 0⟩ : Sl) w)) ∧ (¬ (a0 = none) → (∀ (b2 : Nat) (w3 : World), New w b2 (.map #[] 0) w3 → (∃ (b5 o6 : Nat), a0 = some ⟨b5, o6, none⟩ ∧ (∃ v7 : Int, w3.cell? ⟨b5, o6 + 1, none⟩ = some (.int .i64 v7) ∧ (∃ (I10 : Int → World → Prop) (μ11 : Int → World → Nat), I10 v7 w3 ∧ ∀ (l9 : Int) (w13 : World), I10 l9 w13 → (((0 : Int) ≤ l9 → (Calls PP n_seq_Seq_note #[.pointer (some ⟨b5, o6, none⟩), .map (some b2), .int .i64 l9, .int .i64 1] w13 (fun e w18 => e = .returned (.tuple #[]) ∧ (∃ v22 : Sl, w18.cell? ⟨b5, o6, none⟩ = some (v22.v) ∧ (∃ k24 : Nat, l9 = ((k24 : Nat) : Int) ∧ k24 < v22.n ∧ (∃ (b26 o27 : Nat), v22.b = some ⟨b26, o27, none⟩ ∧ (∃ v29 : Int, w18.cell? ⟨b26, o27 + k24 * 3 + 2, none⟩ = some (.int .i64 v29) ∧ (I10 v29 w18 ∧ μ11 v29 w18 < μ11 l9 w13)))))))) ∧ (¬ ((0 : Int) ≤ l9) → (Calls PP n_seq_ledger_list #[.map (some b2)] w13 (fun e w32 => ∃ r35 : Sl, e = .returned (r35.v) ∧ (R r35 w32))))))))))
set_option maxRecDepth 100000 in
theorem vc_seq_Seq_Pairs {a0 : Option Addr} {R : Sl → World → Prop} {w : World} (h : VC_seq_Seq_Pairs a0 R w) : Calls PP n_seq_Seq_Pairs #[.pointer a0] w fun e w' => ∃ r0 : Sl, e = .returned (r0.v) ∧ R r0 w' := by
  refine Calls.mono (calls_of_cw (n := 28) (rs := #[.tmp 2]) (args := [.pointer a0]) (R := fun v w' => ∃ r0 : Sl, v = r0.v ∧ R r0 w') Try.func95 rfl rfl (Nat.le_of_ble_eq_true rfl) rfl ?_) ?_
  case refine_2 => rintro e w' ⟨v, rfl, hr⟩; obtain ⟨r0, rfl, hr⟩ := hr; exact ⟨r0, rfl, hr⟩
  have hx : Ext w w := Chg.refl _
  unfold VC_seq_Seq_Pairs at h
  refine cw_seq ?_
  refine cw_region ?_
  refine sl_v rfl (r_as rfl) ?_
  refine sl_nil ?_
  refine cw_seq ?_
  refine cw_seq ?_
  refine cw_region ?_
  refine sl_v rfl (r_mv rfl) ?_
  refine sl_v rfl (p_eqn rfl rfl Try.underlying122) ?_
  refine sl_nil ?_
  refine bcases (decide (a0 = none)) (fun hb1 => ?_) (fun hb1 => ?_)
  · replace h := h.1 (of_decide_eq_true hb1)
    refine cw_ct rfl hb1 ?_
    refine cw_seq ?_
    refine cw_region ?_
    refine sl_v rfl (r_as rfl) ?_
    refine sl_nil ?_
    refine cw_ret ?_
    exact rs_1 (rt rfl) ⟨(⟨none, 0, 0⟩ : Sl), rfl, h⟩
  · replace h := h.2 (of_decide_eq_false hb1)
    refine cw_cf rfl hb1 ?_
    refine cw_skip ?_
    refine cw_seq ?_
    refine cw_region ?_
    refine sl_op rfl (ok_mm (fun b2 w3 hN4 => ?_) rfl)
    replace h := h b2 w3 hN4
    replace hx : Ext w3 w3 := Chg.refl _
    refine sl_v rfl (r_as rfl) ?_
    refine sl_nil ?_
    refine cw_seq ?_
    refine cw_seq ?_
    refine cw_region ?_
    refine sl_v rfl (r_mv rfl) ?_
    obtain ⟨b5, o6, rfl, h⟩ := h
    refine sl_v rfl (r_nc rfl) ?_
    refine sl_v rfl (fa_seq_Seq_1 (o' := o6 + 1) rfl rfl) ?_
    obtain ⟨v7, hc8, h⟩ := h
    refine sl_v rfl (ld_int rfl hc8) ?_
    refine sl_v rfl (r_as rfl) ?_
    refine sl_nil ?_
    refine cw_block ?_
    obtain ⟨I10, μ11, hI12, h⟩ := h
    refine cw_loop (σ := Int) (fun s g => (upd (upd (upd g 0 (.pointer (some ⟨b5, o6, none⟩))) 3 (.map (some b2))) 4 (.int .i64 s))) (fun s w => I10 s w) (fun s w => μ11 s w) (v7) _ (kp (kp (kp rfl rfl) rfl) rfl) hI12 ?_
    rintro l9 g14 w13 hi15
    replace h := h l9 w13 hi15
    have hx : Ext w13 w13 := Chg.refl _
    change CW PP _ _ _ (upd (upd (upd g14 0 (.pointer (some ⟨b5, o6, none⟩))) 3 (.map (some b2))) 4 (.int .i64 l9)) _
    refine cw_seq ?_
    refine cw_seq ?_
    refine cw_region ?_
    refine sl_v rfl (r_mv rfl) ?_
    refine sl_v rfl (r_geq rfl rfl) ?_
    refine sl_nil ?_
    refine bcases (decide ((0 : Int) ≤ l9)) (fun hb16 => ?_) (fun hb16 => ?_)
    · replace h := h.1 (of_decide_eq_true hb16)
      refine cw_ct rfl hb16 ?_
      refine cw_skip ?_
      refine cw_seq ?_
      refine cw_block ?_
      refine cw_region ?_
      refine sl_v rfl (r_mv rfl) ?_
      refine sl_v rfl (r_mv rfl) ?_
      refine sl_v rfl (r_mv rfl) ?_
      refine sl_op rfl (ok_call c_seq_Seq_note rfl (Calls.mono h (fun e17 w18 hq19 => ?_)))
      clear h
      obtain ⟨he20, h⟩ := hq19
      refine ⟨_, he20, ?_⟩
      replace hx : Ext w18 w18 := Chg.refl _
      refine sl_nil ?_
      refine cw_region ?_
      refine sl_v rfl (r_mv rfl) ?_
      refine sl_v rfl (r_nc rfl) ?_
      refine sl_v rfl (fa_seq_Seq_0 (o' := o6) rfl rfl) ?_
      obtain ⟨v22, hc23, h⟩ := h
      refine sl_v rfl (ld_sl_seq_cell rfl hc23) ?_
      refine sl_v rfl (r_mv rfl) ?_
      obtain ⟨k24, rfl, hk25, h⟩ := h
      obtain ⟨b26, o27, hb28, h⟩ := h
      refine sl_v rfl (ia_sl_seq_cell (s := v22) (j := k24) (o' := o27 + k24 * 3) rfl rfl hk25 hb28 rfl) ?_
      refine sl_v rfl (fa_seq_cell_2 (o' := o27 + k24 * 3 + 2) rfl rfl) ?_
      obtain ⟨v29, hc30, h⟩ := h
      refine sl_v rfl (ld_int rfl hc30) ?_
      refine sl_v rfl (r_as rfl) ?_
      refine sl_nil ?_
      exact ⟨(v29), _, (kp (kp (kp rfl rfl) rfl) rfl), h.1, h.2⟩
    · replace h := h.2 (of_decide_eq_false hb16)
      refine cw_cf rfl hb16 ?_
      refine cw_exit ?_
      refine cw_seq ?_
      refine cw_region ?_
      refine sl_v rfl (r_mv rfl) ?_
      refine sl_op rfl (ok_call c_seq_ledger_list rfl (Calls.mono h (fun e31 w32 hq33 => ?_)))
      clear h
      obtain ⟨r35, he34, h⟩ := hq33
      refine ⟨_, he34, ?_⟩
      replace hx : Ext w32 w32 := Chg.refl _
      refine sl_v rfl (r_as rfl) ?_
      refine sl_nil ?_
      refine cw_ret ?_
      exact rs_1 (rt rfl) ⟨r35, rfl, h⟩

def VC_seq_Seq_pair (a0 : Option Addr) (a1 : Int) (R : Int → Int → Bool → World → Prop) (w : World) : Prop :=
  ∀ (b1 : Nat) (w2 : World), Priv w b1 w2 → (∃ K6 : Bool → World → Prop, (∀ (j5 : Bool) (w8 : World), K6 j5 w8 → ((j5 = true → (∀ w25 : World, Chg (fun b => b = b1) w8 w25 → (R 0 0 false w25))) ∧ (j5 = false → (∃ (b29 o30 : Nat), a0 = some ⟨b29, o30, none⟩ ∧ (∃ v31 : Sl, w8.cell? ⟨b29, o30, none⟩ = some (v31.v) ∧ (∃ k33 : Nat, a1 = ((k33 : Nat) : Int) ∧ k33 < v31.n ∧ (∃ (b35 o36 : Nat), v31.b = some ⟨b35, o36, none⟩ ∧ (∃ v38 : Int, w8.cell? ⟨b35, o36 + k33 * 3, none⟩ = some (.int .i64 v38) ∧ (∃ v40 : Int, w8.cell? ⟨b35, o36 + k33 * 3 + 2, none⟩ = some (.int .i64 v40) ∧ (∃ k42 : Nat, v40 = ((k42 : Nat) : Int) ∧ k42 < v31.n ∧ (∃ v44 : Int, w8.cell? ⟨b35, o36 + k42 * 3, none⟩ = some (.int .i64 v44) ∧ (∀ w46 : World, Chg (fun b => b = b1) w8 w46 → (R v38 v44 true w46))))))))))))) ∧ ((a1 < (0 : Int) → (K6 true w2)) ∧ (¬ (a1 < (0 : Int)) → (∃ (b12 o13 : Nat), a0 = some ⟨b12, o13, none⟩ ∧ (∃ v14 : Sl, w2.cell? ⟨b12, o13, none⟩ = some (v14.v) ∧ (∃ k16 : Nat, a1 = ((k16 : Nat) : Int) ∧ k16 < v14.n ∧ (∃ (b18 o19 : Nat), v14.b = some ⟨b18, o19, none⟩ ∧ (∃ v21 : Int, w2.cell? ⟨b18, o19 + k16 * 3 + 2, none⟩ = some (.int .i64 v21) ∧ (K6 (decide (v21 < (0 : Int))) w2)))))))))
set_option maxRecDepth 100000 in
theorem vc_seq_Seq_pair {a0 : Option Addr} {a1 : Int} {R : Int → Int → Bool → World → Prop} {w : World} (h : VC_seq_Seq_pair a0 a1 R w) : Calls PP n_seq_Seq_pair #[.pointer a0, .int .i64 a1] w fun e w' => ∃ r0_0 : Int, ∃ r0_1 : Int, ∃ r1 : Bool, e = .returned (.tuple #[.agg #[.int .i64 r0_0, .int .i64 r0_1], .bool r1]) ∧ R r0_0 r0_1 r1 w' := by
  refine Calls.mono (calls_of_cw (n := 44) (rs := #[.cell 4 111, .tmp 5]) (args := [.pointer a0, .int .i64 a1]) (R := fun v w' => ∃ r0_0 : Int, ∃ r0_1 : Int, ∃ r1 : Bool, v = .tuple #[.agg #[.int .i64 r0_0, .int .i64 r0_1], .bool r1] ∧ R r0_0 r0_1 r1 w') Try.func96 rfl rfl (Nat.le_of_ble_eq_true rfl) rfl ?_) ?_
  case refine_2 => rintro e w' ⟨v, rfl, hr⟩; obtain ⟨r0_0, r0_1, r1, rfl, hr⟩ := hr; exact ⟨r0_0, r0_1, r1, rfl, hr⟩
  have hx : Ext w w := Chg.refl _
  unfold VC_seq_Seq_pair at h
  refine cw_seq ?_
  refine cw_region ?_
  refine sl_op rfl (al_api_Pair rfl (fun b1 w2 hN3 => ?_))
  have hB4 := hN3.here
  replace h := h b1 w2 ⟨hx.tr hN3.ext, Nat.le_trans hx.size hN3.fresh, lt_of_blk hN3.here⟩
  replace hx : Ext w2 w2 := Chg.refl _
  refine sl_v rfl (r_as rfl) ?_
  refine sl_nil ?_
  refine cw_seq ?_
  obtain ⟨K6, hK7, h⟩ := h
  refine cw_mid (fun f w => ∃ (g : Env) (j5 : Bool), f = (upd (upd (upd (upd g 0 (.pointer a0)) 1 (.int .i64 a1)) 4 (.pointer (some ⟨b1, 0, none⟩))) 18 (.bool j5)) ∧ w.heap[b1]? = some (.cells #[.int .i64 0, .int .i64 0] t_api_Pair (0, 0)) ∧ K6 j5 w) ?_ (fun _ w8 hM10 => ?_)
  ·
    refine cw_region ?_
    refine sl_v rfl (r_mv rfl) ?_
    refine sl_v rfl (r_lss rfl rfl) ?_
    refine sl_v rfl (r_mv rfl) ?_
    refine bcases (decide (a1 < (0 : Int))) (fun hb11 => ?_) (fun hb11 => ?_)
    · replace h := h.1 (of_decide_eq_true hb11)
      refine sl_no rfl rfl rfl hb11 ?_
      refine sl_no rfl rfl rfl hb11 ?_
      refine sl_no rfl rfl rfl hb11 ?_
      refine sl_no rfl rfl rfl hb11 ?_
      refine sl_no rfl rfl rfl hb11 ?_
      refine sl_no rfl rfl rfl hb11 ?_
      refine sl_no rfl rfl rfl hb11 ?_
      refine sl_no rfl rfl rfl hb11 ?_
      refine sl_no rfl rfl rfl hb11 ?_
      refine sl_v rfl (r_pt rfl hb11 rfl) ?_
      refine sl_nil ?_
      exact ⟨_, true, (kp (kp (kp (kp rfl rfl) rfl) rfl) rfl), hB4, h⟩
    · replace h := h.2 (of_decide_eq_false hb11)
      refine sl_vg rfl rfl rfl hb11 (r_mv rfl) ?_
      obtain ⟨b12, o13, rfl, h⟩ := h
      refine sl_vg rfl rfl rfl hb11 (r_nc rfl) ?_
      refine sl_vg rfl rfl rfl hb11 (fa_seq_Seq_0 (o' := o13) rfl rfl) ?_
      obtain ⟨v14, hc15, h⟩ := h
      refine sl_vg rfl rfl rfl hb11 (ld_sl_seq_cell rfl hc15) ?_
      refine sl_vg rfl rfl rfl hb11 (r_mv rfl) ?_
      obtain ⟨k16, rfl, hk17, h⟩ := h
      obtain ⟨b18, o19, hb20, h⟩ := h
      refine sl_vg rfl rfl rfl hb11 (ia_sl_seq_cell (s := v14) (j := k16) (o' := o19 + k16 * 3) rfl rfl hk17 hb20 rfl) ?_
      refine sl_vg rfl rfl rfl hb11 (fa_seq_cell_2 (o' := o19 + k16 * 3 + 2) rfl rfl) ?_
      obtain ⟨v21, hc22, h⟩ := h
      refine sl_vg rfl rfl rfl hb11 (ld_int rfl hc22) ?_
      refine sl_vg rfl rfl rfl hb11 (r_lss rfl rfl) ?_
      refine sl_v rfl (r_pf rfl hb11 rfl) ?_
      refine sl_nil ?_
      exact ⟨_, decide (v21 < (0 : Int)), (kp (kp (kp (kp rfl rfl) rfl) rfl) rfl), hB4, h⟩
  ·
    obtain ⟨g9, j5, rfl, hB23, hM10⟩ := hM10
    replace h := hK7 j5 w8 hM10
    have hx : Ext w8 w8 := Chg.refl _
    refine bcases (j5) (fun hb24 => ?_) (fun hb24 => ?_)
    · replace h := h.1 hb24
      refine cw_ct rfl hb24 ?_
      refine cw_seq ?_
      refine cw_region ?_
      refine sl_v rfl (bd_api_Pair (vs := []) (cs := #[.int .i64 0, .int .i64 0]) rfl rfl) ?_
      refine sl_op rfl (st_api_Pair (vs := [.int .i64 0, .int .i64 0]) rfl rfl rfl rfl rfl ⟨_, _, hB23, Nat.le_of_ble_eq_true rfl⟩ (fun w25 hw26 => ?_))
      have hc_ := sto_chg hw26
      replace hB23 : w25.heap[b1]? = some (.cells #[.int .i64 0, .int .i64 0] t_api_Pair (0, 0)) := sto_blk hw26 hB23
      replace h := h w25 (Chg.pre hx hc_)
      replace hx : Ext w25 w25 := Chg.refl _
      clear hc_
      refine sl_v rfl (r_as rfl) ?_
      refine sl_nil ?_
      refine cw_ret ?_
      exact rs_2 (rc (vs := [.int .i64 0, .int .i64 0]) Try.underlying111 rfl i_api_Pair rfl rfl (.c (cell_blk hB23 rfl) (.c (cell_blk hB23 rfl) .n))) (rt rfl) ⟨0, 0, false, rfl, h⟩
    · replace h := h.2 hb24
      refine cw_cf rfl hb24 ?_
      refine cw_skip ?_
      refine cw_seq ?_
      refine cw_tail 24 mo (by kernel_rfl) (fun w27 hd28 => ?_)
      replace hB23 := (Ext.of_drew hd28).get hB23
      replace hx := hx.tr (Ext.of_drew hd28)
      refine st_v rfl (r_mv rfl) ?_
      obtain ⟨b29, o30, rfl, h⟩ := h
      refine st_v rfl (r_nc rfl) ?_
      refine st_v rfl (fa_seq_Seq_0 (o' := o30) rfl rfl) ?_
      obtain ⟨v31, hc32, h⟩ := h
      refine st_v rfl (ld_sl_seq_cell rfl (hx.cell hc32)) ?_
      refine st_v rfl (r_mv rfl) ?_
      obtain ⟨k33, rfl, hk34, h⟩ := h
      obtain ⟨b35, o36, hb37, h⟩ := h
      refine st_v rfl (ia_sl_seq_cell (s := v31) (j := k33) (o' := o36 + k33 * 3) rfl rfl hk34 hb37 rfl) ?_
      refine st_v rfl (fa_seq_cell_0 (o' := o36 + k33 * 3) rfl rfl) ?_
      obtain ⟨v38, hc39, h⟩ := h
      refine st_v rfl (ld_int rfl (hx.cell hc39)) ?_
      refine st_v rfl (r_mv rfl) ?_
      refine st_v rfl (r_nc rfl) ?_
      refine st_v rfl (fa_seq_Seq_0 (o' := o30) rfl rfl) ?_
      refine st_v rfl (ld_sl_seq_cell rfl (hx.cell hc32)) ?_
      refine st_v rfl (r_mv rfl) ?_
      refine st_v rfl (r_nc rfl) ?_
      refine st_v rfl (fa_seq_Seq_0 (o' := o30) rfl rfl) ?_
      refine st_v rfl (ld_sl_seq_cell rfl (hx.cell hc32)) ?_
      refine st_v rfl (r_mv rfl) ?_
      refine st_v rfl (ia_sl_seq_cell (s := v31) (j := k33) (o' := o36 + k33 * 3) rfl rfl hk34 hb37 rfl) ?_
      refine st_v rfl (fa_seq_cell_2 (o' := o36 + k33 * 3 + 2) rfl rfl) ?_
      obtain ⟨v40, hc41, h⟩ := h
      refine st_v rfl (ld_int rfl (hx.cell hc41)) ?_
      obtain ⟨k42, rfl, hk43, h⟩ := h
      refine st_v rfl (ia_sl_seq_cell (s := v31) (j := k42) (o' := o36 + k42 * 3) rfl rfl hk43 hb37 rfl) ?_
      refine st_v rfl (fa_seq_cell_0 (o' := o36 + k42 * 3) rfl rfl) ?_
      obtain ⟨v44, hc45, h⟩ := h
      refine st_v rfl (ld_int rfl (hx.cell hc45)) ?_
      refine st_v rfl (bd_api_Pair (vs := [(0, .int .i64 v38), (1, .int .i64 v44)]) (cs := #[.int .i64 v38, .int .i64 v44]) rfl rfl) ?_
      refine st_nil ?_
      refine sl_op rfl (st_api_Pair (vs := [.int .i64 v38, .int .i64 v44]) rfl rfl rfl rfl rfl ⟨_, _, hB23, Nat.le_of_ble_eq_true rfl⟩ (fun w46 hw47 => ?_))
      have hc_ := sto_chg hw47
      replace hB23 : w46.heap[b1]? = some (.cells #[.int .i64 v38, .int .i64 v44] t_api_Pair (0, 0)) := sto_blk hw47 hB23
      replace h := h w46 (Chg.pre hx hc_)
      replace hx : Ext w46 w46 := Chg.refl _
      clear hc_
      refine sl_v rfl (r_as rfl) ?_
      refine sl_nil ?_
      refine cw_ret ?_
      exact rs_2 (rc (vs := [.int .i64 v38, .int .i64 v44]) Try.underlying111 rfl i_api_Pair rfl rfl (.c (cell_blk hB23 rfl) (.c (cell_blk hB23 rfl) .n))) (rt rfl) ⟨v38, v44, true, rfl, h⟩

def VC_seq_Seq_join (a0 : Option Addr) (a1 : Option Nat) (a2 : Int) (a3 : Int) (R : World → Prop) (w : World) : Prop :=
  ∃ (b3 o4 : Nat), a0 = some ⟨b3, o4, none⟩ ∧ (∃ v5 : Sl, w.cell? ⟨b3, o4, none⟩ = some (v5.v) ∧ (∃ k7 : Nat, a2 = ((k7 : Nat) : Int) ∧ k7 < v5.n ∧ (∃ (b9 o10 : Nat), v5.b = some ⟨b9, o10, none⟩ ∧ (∃ v12 : Int, w.cell? ⟨b9, o10 + k7 * 3 + 1, none⟩ = some (.int .i64 v12) ∧ (∃ v14 : Int, w.cell? ⟨b9, o10 + k7 * 3 + 2, none⟩ = some (.int .i64 v14) ∧ (∀ w1 : World, Ext w w1 → (Calls PP n_seq_Seq_note #[.pointer (some ⟨b3, o4, none⟩), .map a1, .int .i64 v12, .int .i64 (-1)] w1 (fun e w18 => e = .returned (.tuple #[]) ∧ (Calls PP n_seq_Seq_note #[.pointer (some ⟨b3, o4, none⟩), .map a1, .int .i64 ((k7 : Nat) : Int), .int .i64 (-1)] w18 (fun e w23 => e = .returned (.tuple #[]) ∧ (Calls PP n_seq_Seq_note #[.pointer (some ⟨b3, o4, none⟩), .map a1, .int .i64 v14, .int .i64 (-1)] w23 (fun e w28 => e = .returned (.tuple #[]) ∧ (∃ v32 : Sl, w28.cell? ⟨b3, o4, none⟩ = some (v32.v) ∧ (∃ k34 : Nat, v14 = ((k34 : Nat) : Int) ∧ k34 < v32.n ∧ (∃ (b36 o37 : Nat), v32.b = some ⟨b36, o37, none⟩ ∧ (∃ v39 : Int, w28.cell? ⟨b36, o37 + k34 * 3 + 2, none⟩ = some (.int .i64 v39) ∧ (k7 < v32.n ∧ (∀ w42 : World, Ext w28 w42 → (Wr w42 b36 (o37 + k7 * 3) 1 ∧ (∀ w44 : World, w44 = setCells w42 b36 (o37 + k7 * 3) [.int .i64 a3] → (w44.cell? ⟨b3, o4, none⟩ = some (v32.v) ∧ (w44.cell? ⟨b3, o4, none⟩ = some (v32.v) ∧ (Wr w44 b36 (o37 + k7 * 3 + 2) 1 ∧ (∀ w50 : World, w50 = setCells w44 b36 (o37 + k7 * 3 + 2) [.int .i64 v39] → (w50.cell? ⟨b3, o4, none⟩ = some (v32.v) ∧ (w50.cell? ⟨b3, o4, none⟩ = some (v32.v) ∧ (∃ K55 : World → Prop, (∀ (w57 : World), K55 w57 → (∃ v71 : Int, w57.cell? ⟨b3, o4 + 2, none⟩ = some (.int .i64 v71) ∧ (∃ z73 : Int, z73 = IntKind.wrap .i64 (v71 - 1) ∧ (Wr w57 b3 (o4 + 2) 1 ∧ (∀ w74 : World, w74 = setCells w57 b3 (o4 + 2) [.int .i64 z73] → (Calls PP n_seq_Seq_note #[.pointer (some ⟨b3, o4, none⟩), .map a1, .int .i64 v12, .int .i64 1] w74 (fun e w78 => e = .returned (.tuple #[]) ∧ (Calls PP n_seq_Seq_note #[.pointer (some ⟨b3, o4, none⟩), .map a1, .int .i64 ((k7 : Nat) : Int), .int .i64 1] w78 (fun e w83 => e = .returned (.tuple #[]) ∧ (R w83)))))))))) ∧ (((0 : Int) ≤ v39 → (∃ v61 : Sl, w50.cell? ⟨b3, o4, none⟩ = some (v61.v) ∧ (∃ k63 : Nat, v39 = ((k63 : Nat) : Int) ∧ k63 < v61.n ∧ (∃ (b65 o66 : Nat), v61.b = some ⟨b65, o66, none⟩ ∧ (Wr w50 b65 (o66 + k63 * 3 + 1) 1 ∧ (∀ w68 : World, w68 = setCells w50 b65 (o66 + k63 * 3 + 1) [.int .i64 ((k7 : Nat) : Int)] → (K55 w68))))))) ∧ (¬ ((0 : Int) ≤ v39) → (K55 w50))))))))))))))))))))))))))))))
set_option maxRecDepth 100000 in
theorem vc_seq_Seq_join {a0 : Option Addr} {a1 : Option Nat} {a2 : Int} {a3 : Int} {R : World → Prop} {w : World} (h : VC_seq_Seq_join a0 a1 a2 a3 R w) : Calls PP n_seq_Seq_join #[.pointer a0, .map a1, .int .i64 a2, .int .i64 a3] w fun e w' => e = .returned (.tuple #[]) ∧ R w' := by
  refine Calls.mono (calls_of_cw (n := 88) (rs := #[]) (args := [.pointer a0, .map a1, .int .i64 a2, .int .i64 a3]) (R := fun v w' => v = .tuple #[] ∧ R w') Try.func97 rfl rfl (Nat.le_of_ble_eq_true rfl) rfl ?_) ?_
  case refine_2 => rintro e w' ⟨v, rfl, hr⟩; obtain ⟨rfl, hr⟩ := hr; exact ⟨rfl, hr⟩
  have hx : Ext w w := Chg.refl _
  unfold VC_seq_Seq_join at h
  refine cw_seq ?_
  refine cw_still mo (by kernel_rfl) (fun w1 hd2 => ?_)
  replace hx := hx.tr (Ext.of_drew hd2)
  refine st_v rfl (r_mv rfl) ?_
  obtain ⟨b3, o4, rfl, h⟩ := h
  refine st_v rfl (r_nc rfl) ?_
  refine st_v rfl (fa_seq_Seq_0 (o' := o4) rfl rfl) ?_
  obtain ⟨v5, hc6, h⟩ := h
  refine st_v rfl (ld_sl_seq_cell rfl (hx.cell hc6)) ?_
  refine st_v rfl (r_mv rfl) ?_
  obtain ⟨k7, rfl, hk8, h⟩ := h
  obtain ⟨b9, o10, hb11, h⟩ := h
  refine st_v rfl (ia_sl_seq_cell (s := v5) (j := k7) (o' := o10 + k7 * 3) rfl rfl hk8 hb11 rfl) ?_
  refine st_v rfl (fa_seq_cell_1 (o' := o10 + k7 * 3 + 1) rfl rfl) ?_
  obtain ⟨v12, hc13, h⟩ := h
  refine st_v rfl (ld_int rfl (hx.cell hc13)) ?_
  refine st_v rfl (r_mv rfl) ?_
  refine st_v rfl (r_nc rfl) ?_
  refine st_v rfl (fa_seq_Seq_0 (o' := o4) rfl rfl) ?_
  refine st_v rfl (ld_sl_seq_cell rfl (hx.cell hc6)) ?_
  refine st_v rfl (r_mv rfl) ?_
  refine st_v rfl (ia_sl_seq_cell (s := v5) (j := k7) (o' := o10 + k7 * 3) rfl rfl hk8 hb11 rfl) ?_
  refine st_v rfl (fa_seq_cell_2 (o' := o10 + k7 * 3 + 2) rfl rfl) ?_
  obtain ⟨v14, hc15, h⟩ := h
  refine st_v rfl (ld_int rfl (hx.cell hc15)) ?_
  refine st_v rfl (r_as rfl) ?_
  refine st_v rfl (r_as rfl) ?_
  refine st_nil ?_
  refine cw_seq ?_
  refine cw_region ?_
  refine sl_v rfl (r_mv rfl) ?_
  refine sl_v rfl (r_mv rfl) ?_
  refine sl_v rfl (r_mv rfl) ?_
  replace h := h _ hx
  replace hx : Ext w1 w1 := Chg.refl _
  refine sl_op rfl (ok_call c_seq_Seq_note rfl (Calls.mono h (fun e17 w18 hq19 => ?_)))
  clear h
  obtain ⟨he20, h⟩ := hq19
  refine ⟨_, he20, ?_⟩
  replace hx : Ext w18 w18 := Chg.refl _
  refine sl_nil ?_
  refine cw_seq ?_
  refine cw_region ?_
  refine sl_v rfl (r_mv rfl) ?_
  refine sl_v rfl (r_mv rfl) ?_
  refine sl_v rfl (r_mv rfl) ?_
  refine sl_op rfl (ok_call c_seq_Seq_note rfl (Calls.mono h (fun e22 w23 hq24 => ?_)))
  clear h
  obtain ⟨he25, h⟩ := hq24
  refine ⟨_, he25, ?_⟩
  replace hx : Ext w23 w23 := Chg.refl _
  refine sl_nil ?_
  refine cw_seq ?_
  refine cw_region ?_
  refine sl_v rfl (r_mv rfl) ?_
  refine sl_v rfl (r_mv rfl) ?_
  refine sl_v rfl (r_mv rfl) ?_
  refine sl_op rfl (ok_call c_seq_Seq_note rfl (Calls.mono h (fun e27 w28 hq29 => ?_)))
  clear h
  obtain ⟨he30, h⟩ := hq29
  refine ⟨_, he30, ?_⟩
  replace hx : Ext w28 w28 := Chg.refl _
  refine sl_nil ?_
  refine cw_seq ?_
  refine cw_region ?_
  refine sl_v rfl (r_mv rfl) ?_
  refine sl_v rfl (r_nc rfl) ?_
  refine sl_v rfl (fa_seq_Seq_0 (o' := o4) rfl rfl) ?_
  obtain ⟨v32, hc33, h⟩ := h
  refine sl_v rfl (ld_sl_seq_cell rfl hc33) ?_
  refine sl_v rfl (r_mv rfl) ?_
  obtain ⟨k34, rfl, hk35, h⟩ := h
  obtain ⟨b36, o37, hb38, h⟩ := h
  refine sl_v rfl (ia_sl_seq_cell (s := v32) (j := k34) (o' := o37 + k34 * 3) rfl rfl hk35 hb38 rfl) ?_
  refine sl_v rfl (fa_seq_cell_2 (o' := o37 + k34 * 3 + 2) rfl rfl) ?_
  obtain ⟨v39, hc40, h⟩ := h
  refine sl_v rfl (ld_int rfl hc40) ?_
  refine sl_v rfl (r_as rfl) ?_
  refine sl_nil ?_
  refine cw_seq ?_
  obtain ⟨hk41, h⟩ := h
  refine cw_dw (S := fun w' => w'.cell? ⟨b3, o4, none⟩ = some (v32.v) ∧ w'.cell? ⟨b3, o4, none⟩ = some (v32.v) ∧ True) mo (fun w42 hd43 => ?_)
  replace hx := hx.tr (Ext.of_drew hd43)
  have hS : w42.cell? ⟨b3, o4, none⟩ = some (v32.v) ∧ w42.cell? ⟨b3, o4, none⟩ = some (v32.v) ∧ True := ⟨hx.cell hc33, hx.cell hc33, trivial⟩
  refine dw_t 0 1 rfl (by kernel_rfl) rfl hS (fun _ _ => (r_mv rfl)) ?_
  refine dw_t 1 3 rfl (by kernel_rfl) rfl hS (fun _ _ => (r_nc rfl)) ?_
  refine dw_t 2 7 rfl (by kernel_rfl) rfl hS (fun _ _ => (fa_seq_Seq_0 (o' := o4) rfl rfl)) ?_
  refine dw_t 3 15 rfl (by kernel_rfl) rfl hS (fun _ hS => (ld_sl_seq_cell rfl hS.1)) ?_
  refine dw_t 4 31 rfl (by kernel_rfl) rfl hS (fun _ _ => (r_mv rfl)) ?_
  refine dw_t 5 63 rfl (by kernel_rfl) rfl hS (fun _ _ => (r_mv rfl)) ?_
  refine dw_t 6 127 rfl (by kernel_rfl) rfl hS (fun _ _ => (r_nc rfl)) ?_
  refine dw_t 7 255 rfl (by kernel_rfl) rfl hS (fun _ _ => (fa_seq_Seq_0 (o' := o4) rfl rfl)) ?_
  refine dw_t 8 511 rfl (by kernel_rfl) rfl hS (fun _ hS => (ld_sl_seq_cell rfl hS.2.1)) ?_
  refine dw_t 9 1023 rfl (by kernel_rfl) rfl hS (fun _ _ => (r_mv rfl)) ?_
  refine dw_t 10 2047 rfl (by kernel_rfl) rfl hS (fun _ _ => (r_mv rfl)) ?_
  refine dw_t 11 4095 rfl (by kernel_rfl) rfl hS (fun _ _ => (r_mv rfl)) ?_
  refine dw_t 12 8191 rfl (by kernel_rfl) rfl hS (fun _ _ => (ia_sl_seq_cell (s := v32) (j := k7) (o' := o37 + k7 * 3) rfl rfl hk41 hb38 rfl)) ?_
  refine dw_t 13 16383 rfl (by kernel_rfl) rfl hS (fun _ _ => (fa_seq_cell_0 (o' := o37 + k7 * 3) rfl rfl)) ?_
  replace h := h _ hx
  replace hx : Ext w42 w42 := Chg.refl _
  obtain ⟨hW47, h⟩ := h
  refine dw_l 14 32767 rfl (by kernel_rfl) rfl (st_int (vs := [.int .i64 a3]) rfl rfl rfl rfl rfl hW47 (fun w44 hw45 => ?_))
  replace h := h w44 hw45
  replace hx : Ext w44 w44 := Chg.refl _
  obtain ⟨hq48, h⟩ := h
  obtain ⟨hq49, h⟩ := h
  replace hS : w44.cell? ⟨b3, o4, none⟩ = some (v32.v) ∧ w44.cell? ⟨b3, o4, none⟩ = some (v32.v) ∧ True := ⟨hq48, hq49, trivial⟩
  refine ⟨hS, ?_⟩
  refine dw_t 15 65535 rfl (by kernel_rfl) rfl hS (fun _ _ => (ia_sl_seq_cell (s := v32) (j := k7) (o' := o37 + k7 * 3) rfl rfl hk41 hb38 rfl)) ?_
  refine dw_t 16 131071 rfl (by kernel_rfl) rfl hS (fun _ _ => (fa_seq_cell_2 (o' := o37 + k7 * 3 + 2) rfl rfl)) ?_
  obtain ⟨hW52, h⟩ := h
  refine dw_l 17 262143 rfl (by kernel_rfl) rfl (st_int (vs := [.int .i64 v39]) rfl rfl rfl rfl rfl hW52 (fun w50 hw51 => ?_))
  replace h := h w50 hw51
  replace hx : Ext w50 w50 := Chg.refl _
  obtain ⟨hq53, h⟩ := h
  obtain ⟨hq54, h⟩ := h
  replace hS : w50.cell? ⟨b3, o4, none⟩ = some (v32.v) ∧ w50.cell? ⟨b3, o4, none⟩ = some (v32.v) ∧ True := ⟨hq53, hq54, trivial⟩
  refine ⟨hS, ?_⟩
  refine dw_d (by kernel_rfl) ?_
  clear hS
  obtain ⟨K55, hK56, h⟩ := h
  refine cw_mid (fun f w => ∃ (g : Env), f = (upd (upd (upd (upd g 0 (.pointer (some ⟨b3, o4, none⟩))) 1 (.map a1)) 2 (.int .i64 ((k7 : Nat) : Int))) 8 (.int .i64 v12)) ∧ K55 w) ?_ (fun _ w57 hM59 => ?_)
  ·
    refine cw_seq ?_
    refine cw_region ?_
    refine sl_v rfl (r_mv rfl) ?_
    refine sl_v rfl (r_geq rfl rfl) ?_
    refine sl_nil ?_
    refine bcases (decide ((0 : Int) ≤ v39)) (fun hb60 => ?_) (fun hb60 => ?_)
    · replace h := h.1 (of_decide_eq_true hb60)
      refine cw_ct rfl hb60 ?_
      refine cw_region ?_
      refine sl_v rfl (r_mv rfl) ?_
      refine sl_v rfl (r_nc rfl) ?_
      refine sl_v rfl (fa_seq_Seq_0 (o' := o4) rfl rfl) ?_
      obtain ⟨v61, hc62, h⟩ := h
      refine sl_v rfl (ld_sl_seq_cell rfl hc62) ?_
      refine sl_v rfl (r_mv rfl) ?_
      refine sl_v rfl (r_mv rfl) ?_
      obtain ⟨k63, rfl, hk64, h⟩ := h
      obtain ⟨b65, o66, hb67, h⟩ := h
      refine sl_v rfl (ia_sl_seq_cell (s := v61) (j := k63) (o' := o66 + k63 * 3) rfl rfl hk64 hb67 rfl) ?_
      refine sl_v rfl (fa_seq_cell_1 (o' := o66 + k63 * 3 + 1) rfl rfl) ?_
      obtain ⟨hW70, h⟩ := h
      refine sl_op rfl (st_int (vs := [.int .i64 ((k7 : Nat) : Int)]) rfl rfl rfl rfl rfl hW70 (fun w68 hw69 => ?_))
      replace h := h w68 hw69
      replace hx : Ext w68 w68 := Chg.refl _
      refine sl_nil ?_
      exact ⟨_, (kp (kp (kp (kp rfl rfl) rfl) rfl) rfl), h⟩
    · replace h := h.2 (of_decide_eq_false hb60)
      refine cw_cf rfl hb60 ?_
      refine cw_skip ?_
      exact ⟨_, (kp (kp (kp (kp rfl rfl) rfl) rfl) rfl), h⟩
  ·
    obtain ⟨g58, rfl, hM59⟩ := hM59
    replace h := hK56 w57 hM59
    have hx : Ext w57 w57 := Chg.refl _
    refine cw_seq ?_
    refine cw_region ?_
    refine sl_v rfl (r_mv rfl) ?_
    refine sl_v rfl (r_nc rfl) ?_
    refine sl_v rfl (fa_seq_Seq_2 (o' := o4 + 2) rfl rfl) ?_
    obtain ⟨v71, hc72, h⟩ := h
    refine sl_v rfl (ld_int rfl hc72) ?_
    obtain ⟨z73, hz73, h⟩ := h
    refine sl_v rfl (r_sub rfl rfl hz73) ?_
    refine sl_v rfl (r_nc rfl) ?_
    refine sl_v rfl (fa_seq_Seq_2 (o' := o4 + 2) rfl rfl) ?_
    obtain ⟨hW76, h⟩ := h
    refine sl_op rfl (st_int (vs := [.int .i64 z73]) rfl rfl rfl rfl rfl hW76 (fun w74 hw75 => ?_))
    replace h := h w74 hw75
    replace hx : Ext w74 w74 := Chg.refl _
    refine sl_nil ?_
    refine cw_seq ?_
    refine cw_region ?_
    refine sl_v rfl (r_mv rfl) ?_
    refine sl_v rfl (r_mv rfl) ?_
    refine sl_v rfl (r_mv rfl) ?_
    refine sl_op rfl (ok_call c_seq_Seq_note rfl (Calls.mono h (fun e77 w78 hq79 => ?_)))
    clear h
    obtain ⟨he80, h⟩ := hq79
    refine ⟨_, he80, ?_⟩
    replace hx : Ext w78 w78 := Chg.refl _
    refine sl_nil ?_
    refine cw_region ?_
    refine sl_v rfl (r_mv rfl) ?_
    refine sl_v rfl (r_mv rfl) ?_
    refine sl_v rfl (r_mv rfl) ?_
    refine sl_op rfl (ok_call c_seq_Seq_note rfl (Calls.mono h (fun e82 w83 hq84 => ?_)))
    clear h
    obtain ⟨he85, h⟩ := hq84
    refine ⟨_, he85, ?_⟩
    replace hx : Ext w83 w83 := Chg.refl _
    refine sl_nil ?_
    exact rs_0 ⟨rfl, h⟩

def VC_checked_Add (a0 : Int) (a1 : Int) (R : Int → Bool → World → Prop) (w : World) : Prop :=
  ∃ K2 : Bool → World → Prop, (∀ (j1 : Bool) (w4 : World), K2 j1 w4 → ((j1 = true → (R 0 false w4)) ∧ (j1 = false → (∃ z21 : Int, z21 = IntKind.wrap .i64 (a0 + a1) ∧ (R z21 true w4))))) ∧ (Calls PP n_checked_within #[.int .i64 a0] w (fun e w8 => ∃ r11 : Bool, e = .returned (.bool r11) ∧ ((r11 = true → (Calls PP n_checked_within #[.int .i64 a1] w8 (fun e w14 => ∃ r17 : Bool, e = .returned (.bool r17) ∧ ((r17 = true → (∃ z19 : Int, z19 = IntKind.wrap .i64 (9223372036854775807 - a1) ∧ (K2 (decide (z19 < a0)) w14))) ∧ (r17 = false → (K2 true w14)))))) ∧ (r11 = false → (K2 true w8)))))
set_option maxRecDepth 100000 in
theorem vc_checked_Add {a0 : Int} {a1 : Int} {R : Int → Bool → World → Prop} {w : World} (h : VC_checked_Add a0 a1 R w) : Calls PP n_checked_Add #[.int .i64 a0, .int .i64 a1] w fun e w' => ∃ r0 : Int, ∃ r1 : Bool, e = .returned (.tuple #[.int .i64 r0, .bool r1]) ∧ R r0 r1 w' := by
  refine Calls.mono (calls_of_cw (n := 23) (rs := #[.tmp 4, .tmp 5]) (args := [.int .i64 a0, .int .i64 a1]) (R := fun v w' => ∃ r0 : Int, ∃ r1 : Bool, v = .tuple #[.int .i64 r0, .bool r1] ∧ R r0 r1 w') Try.func102 rfl rfl (Nat.le_of_ble_eq_true rfl) rfl ?_) ?_
  case refine_2 => rintro e w' ⟨v, rfl, hr⟩; obtain ⟨r0, r1, rfl, hr⟩ := hr; exact ⟨r0, r1, rfl, hr⟩
  have hx : Ext w w := Chg.refl _
  unfold VC_checked_Add at h
  refine cw_seq ?_
  refine cw_region ?_
  refine sl_v rfl (r_as rfl) ?_
  refine sl_v rfl (r_as rfl) ?_
  refine sl_nil ?_
  refine cw_seq ?_
  obtain ⟨K2, hK3, h⟩ := h
  refine cw_mid (fun f w => ∃ (g : Env) (j1 : Bool), f = (upd (upd (upd g 0 (.int .i64 a0)) 1 (.int .i64 a1)) 19 (.bool j1)) ∧ K2 j1 w) ?_ (fun _ w4 hM6 => ?_)
  ·
    refine cw_region ?_
    refine sl_v rfl (r_mv rfl) ?_
    refine sl_op rfl (ok_call c_checked_within rfl (Calls.mono h (fun e7 w8 hq9 => ?_)))
    clear h
    obtain ⟨r11, he10, h⟩ := hq9
    refine ⟨_, he10, ?_⟩
    replace hx : Ext w8 w8 := Chg.refl _
    refine sl_v rfl (r_not rfl) ?_
    refine sl_v rfl (r_mv rfl) ?_
    refine bcases (r11) (fun hb12 => ?_) (fun hb12 => ?_)
    · replace h := h.1 hb12
      refine sl_vg rfl rfl rfl (nt hb12) (r_mv rfl) ?_
      refine sl_g rfl rfl rfl (nt hb12) (ok_call c_checked_within rfl (Calls.mono h (fun e13 w14 hq15 => ?_)))
      clear h
      obtain ⟨r17, he16, h⟩ := hq15
      refine ⟨_, he16, ?_⟩
      replace hx : Ext w14 w14 := Chg.refl _
      refine sl_vg rfl rfl rfl (nt hb12) (r_not rfl) ?_
      refine sl_v rfl (r_pf rfl (nt hb12) rfl) ?_
      refine sl_v rfl (r_mv rfl) ?_
      refine bcases (r17) (fun hb18 => ?_) (fun hb18 => ?_)
      · replace h := h.1 hb18
        refine sl_vg rfl rfl rfl (nt hb18) (r_mv rfl) ?_
        refine sl_vg rfl rfl rfl (nt hb18) (r_mv rfl) ?_
        obtain ⟨z19, hz19, h⟩ := h
        refine sl_vg rfl rfl rfl (nt hb18) (r_sub rfl rfl hz19) ?_
        refine sl_vg rfl rfl rfl (nt hb18) (r_gtr rfl rfl) ?_
        refine sl_v rfl (r_pf rfl (nt hb18) rfl) ?_
        refine sl_nil ?_
        exact ⟨_, decide (z19 < a0), (kp (kp (kp rfl rfl) rfl) rfl), h⟩
      · replace h := h.2 hb18
        refine sl_no rfl rfl rfl (nf hb18) ?_
        refine sl_no rfl rfl rfl (nf hb18) ?_
        refine sl_no rfl rfl rfl (nf hb18) ?_
        refine sl_no rfl rfl rfl (nf hb18) ?_
        refine sl_v rfl (r_pt rfl (nf hb18) rfl) ?_
        refine sl_nil ?_
        exact ⟨_, true, (kp (kp (kp rfl rfl) rfl) rfl), h⟩
    · replace h := h.2 hb12
      refine sl_no rfl rfl rfl (nf hb12) ?_
      refine sl_no rfl rfl rfl (nf hb12) ?_
      refine sl_no rfl rfl rfl (nf hb12) ?_
      refine sl_v rfl (r_pt rfl (nf hb12) rfl) ?_
      refine sl_v rfl (r_mv rfl) ?_
      refine sl_no rfl rfl rfl rfl ?_
      refine sl_no rfl rfl rfl rfl ?_
      refine sl_no rfl rfl rfl rfl ?_
      refine sl_no rfl rfl rfl rfl ?_
      refine sl_v rfl (r_pt rfl rfl rfl) ?_
      refine sl_nil ?_
      exact ⟨_, true, (kp (kp (kp rfl rfl) rfl) rfl), h⟩
  ·
    obtain ⟨g5, j1, rfl, hM6⟩ := hM6
    replace h := hK3 j1 w4 hM6
    have hx : Ext w4 w4 := Chg.refl _
    refine bcases (j1) (fun hb20 => ?_) (fun hb20 => ?_)
    · replace h := h.1 hb20
      refine cw_ct rfl hb20 ?_
      refine cw_seq ?_
      refine cw_region ?_
      refine sl_v rfl (r_as rfl) ?_
      refine sl_v rfl (r_as rfl) ?_
      refine sl_nil ?_
      refine cw_ret ?_
      exact rs_2 (rt rfl) (rt rfl) ⟨0, false, rfl, h⟩
    · replace h := h.2 hb20
      refine cw_cf rfl hb20 ?_
      refine cw_skip ?_
      refine cw_seq ?_
      refine cw_region ?_
      refine sl_v rfl (r_mv rfl) ?_
      refine sl_v rfl (r_mv rfl) ?_
      obtain ⟨z21, hz21, h⟩ := h
      refine sl_v rfl (r_add rfl rfl hz21) ?_
      refine sl_v rfl (r_as rfl) ?_
      refine sl_v rfl (r_as rfl) ?_
      refine sl_nil ?_
      refine cw_ret ?_
      exact rs_2 (rt rfl) (rt rfl) ⟨z21, true, rfl, h⟩

def VC_checked_within (a0 : Int) (R : Bool → World → Prop) (w : World) : Prop :=
  R (decide ((0 : Int) ≤ a0)) w
set_option maxRecDepth 100000 in
theorem vc_checked_within {a0 : Int} {R : Bool → World → Prop} {w : World} (h : VC_checked_within a0 R w) : Calls PP n_checked_within #[.int .i64 a0] w fun e w' => ∃ r0 : Bool, e = .returned (.bool r0) ∧ R r0 w' := by
  refine Calls.mono (calls_of_cw (n := 5) (rs := #[.tmp 2]) (args := [.int .i64 a0]) (R := fun v w' => ∃ r0 : Bool, v = .bool r0 ∧ R r0 w') Try.func104 rfl rfl (Nat.le_of_ble_eq_true rfl) rfl ?_) ?_
  case refine_2 => rintro e w' ⟨v, rfl, hr⟩; obtain ⟨r0, rfl, hr⟩ := hr; exact ⟨r0, rfl, hr⟩
  have hx : Ext w w := Chg.refl _
  unfold VC_checked_within at h
  refine cw_seq ?_
  refine cw_region ?_
  refine sl_v rfl (r_as rfl) ?_
  refine sl_nil ?_
  refine cw_seq ?_
  refine cw_region ?_
  refine sl_v rfl (r_mv rfl) ?_
  refine sl_v rfl (r_geq rfl rfl) ?_
  refine sl_v rfl (r_as rfl) ?_
  refine sl_nil ?_
  refine cw_ret ?_
  exact rs_1 (rt rfl) ⟨decide ((0 : Int) ≤ a0), rfl, h⟩

def VC_seq_Seq_note (a0 : Option Addr) (a1 : Option Nat) (a2 : Int) (a3 : Int) (R : World → Prop) (w : World) : Prop :=
  Calls PP n_seq_Seq_pair #[.pointer a0, .int .i64 a2] w (fun e w2 => ∃ r5_0_0 : Int, ∃ r5_0_1 : Int, ∃ r5_1 : Bool, e = .returned (.tuple #[.agg #[.int .i64 r5_0_0, .int .i64 r5_0_1], .bool r5_1]) ∧ (∀ (b6 : Nat) (w7 : World), Priv w2 b6 w7 → (∀ w10 : World, Chg (fun b => b = b6) w7 w10 → ((r5_1 = true → (Calls PP n_seq_ledger_add #[.map a1, .agg #[.int .i64 r5_0_0, .int .i64 r5_0_1], .int .i64 a3] w10 (fun e w14 => e = .returned (.tuple #[]) ∧ w14.heap[b6]? = w10.heap[b6]? ∧ (R w14)))) ∧ (r5_1 = false → (R w10))))))
set_option maxRecDepth 100000 in
theorem vc_seq_Seq_note {a0 : Option Addr} {a1 : Option Nat} {a2 : Int} {a3 : Int} {R : World → Prop} {w : World} (h : VC_seq_Seq_note a0 a1 a2 a3 R w) : Calls PP n_seq_Seq_note #[.pointer a0, .map a1, .int .i64 a2, .int .i64 a3] w fun e w' => e = .returned (.tuple #[]) ∧ R w' := by
  refine Calls.mono (calls_of_cw (n := 21) (rs := #[]) (args := [.pointer a0, .map a1, .int .i64 a2, .int .i64 a3]) (R := fun v w' => v = .tuple #[] ∧ R w') Try.func106 rfl rfl (Nat.le_of_ble_eq_true rfl) rfl ?_) ?_
  case refine_2 => rintro e w' ⟨v, rfl, hr⟩; obtain ⟨rfl, hr⟩ := hr; exact ⟨rfl, hr⟩
  have hx : Ext w w := Chg.refl _
  unfold VC_seq_Seq_note at h
  refine cw_seq ?_
  refine cw_region ?_
  refine sl_v rfl (r_mv rfl) ?_
  refine sl_v rfl (r_mv rfl) ?_
  refine sl_op rfl (ok_call c_seq_Seq_pair rfl (Calls.mono h (fun e1 w2 hq3 => ?_)))
  clear h
  obtain ⟨r5_0_0, r5_0_1, r5_1, he4, h⟩ := hq3
  refine ⟨_, he4, ?_⟩
  replace hx : Ext w2 w2 := Chg.refl _
  refine sl_v rfl (r_mv rfl) ?_
  refine sl_v rfl (r_ex rfl rfl) ?_
  refine sl_v rfl (r_ex rfl rfl) ?_
  refine sl_op rfl (al_api_Pair rfl (fun b6 w7 hN8 => ?_))
  have hB9 := hN8.here
  replace h := h b6 w7 ⟨hx.tr hN8.ext, Nat.le_trans hx.size hN8.fresh, lt_of_blk hN8.here⟩
  replace hx : Ext w7 w7 := Chg.refl _
  refine sl_op rfl (st_api_Pair (vs := [.int .i64 r5_0_0, .int .i64 r5_0_1]) rfl rfl rfl rfl rfl ⟨_, _, hB9, Nat.le_of_ble_eq_true rfl⟩ (fun w10 hw11 => ?_))
  have hc_ := sto_chg hw11
  replace hB9 : w10.heap[b6]? = some (.cells #[.int .i64 r5_0_0, .int .i64 r5_0_1] t_api_Pair (0, 0)) := sto_blk hw11 hB9
  replace h := h w10 (Chg.pre hx hc_)
  replace hx : Ext w10 w10 := Chg.refl _
  clear hc_
  refine sl_v rfl (r_as rfl) ?_
  refine sl_nil ?_
  refine cw_seq ?_
  refine cw_region ?_
  refine sl_v rfl (r_mv rfl) ?_
  refine sl_nil ?_
  refine bcases (r5_1) (fun hb12 => ?_) (fun hb12 => ?_)
  · replace h := h.1 hb12
    refine cw_ct rfl hb12 ?_
    refine cw_region ?_
    refine sl_v rfl (r_mv rfl) ?_
    refine sl_v rfl (lda_api_Pair (vs := [.int .i64 r5_0_0, .int .i64 r5_0_1]) rfl rfl (.c (cell_blk hB9 rfl) (.c (cell_blk hB9 rfl) .n))) ?_
    refine sl_v rfl (r_mv rfl) ?_
    refine sl_op rfl (ok_call c_seq_ledger_add rfl (Calls.mono h (fun e13 w14 hq15 => ?_)))
    clear h
    obtain ⟨he16, hk18, h⟩ := hq15
    refine ⟨_, he16, ?_⟩
    replace hB9 := hk18.trans hB9
    replace hx : Ext w14 w14 := Chg.refl _
    refine sl_nil ?_
    exact rs_0 ⟨rfl, h⟩
  · replace h := h.2 hb12
    refine cw_cf rfl hb12 ?_
    refine cw_skip ?_
    exact rs_0 ⟨rfl, h⟩

def VC_seq_ledger_list_c1 (a0_0 : Int) (a0_1 : Int) (a0_2 : Int) (a1_0 : Int) (a1_1 : Int) (a1_2 : Int) (R : Int → World → Prop) (w : World) : Prop :=
  ∀ (b1 : Nat) (w2 : World), Priv w b1 w2 → (∀ (b5 : Nat) (w6 : World), Priv w2 b5 w6 → (∀ w10 : World, Ext w6 w10 → (Calls PP n_cmp_Compare_int #[.int .i64 a0_0, .int .i64 a1_0] w10 (fun e w14 => ∃ r17 : Int, e = .returned (.int .i64 r17) ∧ w14.heap[b1]? = w10.heap[b1]? ∧ w14.heap[b5]? = w10.heap[b5]? ∧ (Calls PP n_cmp_Compare_int #[.int .i64 a0_1, .int .i64 a1_1] w14 (fun e w21 => ∃ r24 : Int, e = .returned (.int .i64 r24) ∧ w21.heap[b1]? = w14.heap[b1]? ∧ w21.heap[b5]? = w14.heap[b5]? ∧ (∀ (b27 : Nat) (w28 : World), New w21 b27 (.cells #[.int .i64 r17, .int .i64 r24] t_int (0, 0)) w28 → (Calls PP n_cmp_Or_int #[.slice (some ⟨b27, 0, none⟩) 2 2] w28 (fun e w31 => ∃ r34 : Int, e = .returned (.int .i64 r34) ∧ w31.heap[b1]? = w28.heap[b1]? ∧ w31.heap[b5]? = w28.heap[b5]? ∧ (R r34 w31))))))))))
set_option maxRecDepth 100000 in
theorem vc_seq_ledger_list_c1 {a0_0 : Int} {a0_1 : Int} {a0_2 : Int} {a1_0 : Int} {a1_1 : Int} {a1_2 : Int} {R : Int → World → Prop} {w : World} (h : VC_seq_ledger_list_c1 a0_0 a0_1 a0_2 a1_0 a1_1 a1_2 R w) : Calls PP n_seq_ledger_list_c1 #[.agg #[.int .i64 a0_0, .int .i64 a0_1, .int .i64 a0_2], .agg #[.int .i64 a1_0, .int .i64 a1_1, .int .i64 a1_2]] w fun e w' => ∃ r0 : Int, e = .returned (.int .i64 r0) ∧ R r0 w' := by
  refine Calls.mono (calls_of_cw (n := 21) (rs := #[.tmp 4]) (args := [.agg #[.int .i64 a0_0, .int .i64 a0_1, .int .i64 a0_2], .agg #[.int .i64 a1_0, .int .i64 a1_1, .int .i64 a1_2]]) (R := fun v w' => ∃ r0 : Int, v = .int .i64 r0 ∧ R r0 w') Try.func108 rfl rfl (Nat.le_of_ble_eq_true rfl) rfl ?_) ?_
  case refine_2 => rintro e w' ⟨v, rfl, hr⟩; obtain ⟨r0, rfl, hr⟩ := hr; exact ⟨r0, rfl, hr⟩
  have hx : Ext w w := Chg.refl _
  unfold VC_seq_ledger_list_c1 at h
  refine cw_seq ?_
  refine cw_region ?_
  refine sl_op rfl (bx_seq_Change rfl rfl (fun b1 w2 hN3 => ?_))
  have hB4 := hN3.here
  replace h := h b1 w2 ⟨hx.tr hN3.ext, Nat.le_trans hx.size hN3.fresh, lt_of_blk hN3.here⟩
  replace hx : Ext w2 w2 := Chg.refl _
  refine sl_op rfl (bx_seq_Change rfl rfl (fun b5 w6 hN7 => ?_))
  have hne8 : b1 ≠ b5 := Nat.ne_of_lt (Nat.lt_of_lt_of_le (lt_of_blk hB4) hN7.fresh)
  replace hB4 := hN7.ext.get hB4
  have hB9 := hN7.here
  replace h := h b5 w6 ⟨hx.tr hN7.ext, Nat.le_trans hx.size hN7.fresh, lt_of_blk hN7.here⟩
  replace hx : Ext w6 w6 := Chg.refl _
  refine sl_v rfl (r_as rfl) ?_
  refine sl_nil ?_
  refine cw_seq ?_
  refine cw_dw (S := fun w' => w'.cell? ⟨b1, 0, none⟩ = some (.int .i64 a0_0) ∧ w'.cell? ⟨b5, 0, none⟩ = some (.int .i64 a1_0) ∧ w'.cell? ⟨b1, 1, none⟩ = some (.int .i64 a0_1) ∧ w'.cell? ⟨b5, 1, none⟩ = some (.int .i64 a1_1) ∧ True) mo (fun w10 hd11 => ?_)
  replace hB4 := (Ext.of_drew hd11).get hB4
  replace hB9 := (Ext.of_drew hd11).get hB9
  replace hx := hx.tr (Ext.of_drew hd11)
  have hS : w10.cell? ⟨b1, 0, none⟩ = some (.int .i64 a0_0) ∧ w10.cell? ⟨b5, 0, none⟩ = some (.int .i64 a1_0) ∧ w10.cell? ⟨b1, 1, none⟩ = some (.int .i64 a0_1) ∧ w10.cell? ⟨b5, 1, none⟩ = some (.int .i64 a1_1) ∧ True := ⟨(cell_blk hB4 rfl), (cell_blk hB9 rfl), (cell_blk hB4 rfl), (cell_blk hB9 rfl), trivial⟩
  refine dw_t 0 1 rfl (by kernel_rfl) rfl hS (fun _ _ => (fa_seq_Change_0 (o' := 0) rfl rfl)) ?_
  refine dw_t 1 3 rfl (by kernel_rfl) rfl hS (fun _ _ => (fa_api_Pair_0 (o' := 0) rfl rfl)) ?_
  refine dw_t 2 7 rfl (by kernel_rfl) rfl hS (fun _ hS => (ld_int rfl hS.1)) ?_
  refine dw_t 3 15 rfl (by kernel_rfl) rfl hS (fun _ _ => (fa_seq_Change_0 (o' := 0) rfl rfl)) ?_
  refine dw_t 4 31 rfl (by kernel_rfl) rfl hS (fun _ _ => (fa_api_Pair_0 (o' := 0) rfl rfl)) ?_
  refine dw_t 5 63 rfl (by kernel_rfl) rfl hS (fun _ hS => (ld_int rfl hS.2.1)) ?_
  refine dw_t 7 191 rfl (by kernel_rfl) rfl hS (fun _ _ => (fa_seq_Change_0 (o' := 0) rfl rfl)) ?_
  refine dw_t 8 447 rfl (by kernel_rfl) rfl hS (fun _ _ => (fa_api_Pair_1 (o' := 1) rfl rfl)) ?_
  refine dw_t 9 959 rfl (by kernel_rfl) rfl hS (fun _ hS => (ld_int rfl hS.2.2.1)) ?_
  refine dw_t 10 1983 rfl (by kernel_rfl) rfl hS (fun _ _ => (fa_seq_Change_0 (o' := 0) rfl rfl)) ?_
  refine dw_t 11 4031 rfl (by kernel_rfl) rfl hS (fun _ _ => (fa_api_Pair_1 (o' := 1) rfl rfl)) ?_
  refine dw_t 12 8127 rfl (by kernel_rfl) rfl hS (fun _ hS => (ld_int rfl hS.2.2.2.1)) ?_
  replace h := h _ hx
  replace hx : Ext w10 w10 := Chg.refl _
  refine dw_l 6 8191 rfl (by kernel_rfl) rfl (ok_call c_cmp_Compare_int rfl (Calls.mono h (fun e13 w14 hq15 => ?_)))
  clear h
  obtain ⟨r17, he16, hk18, hk19, h⟩ := hq15
  refine ⟨_, he16, ?_⟩
  replace hB4 := hk18.trans hB4
  replace hB9 := hk19.trans hB9
  replace hx : Ext w14 w14 := Chg.refl _
  replace hS : w14.cell? ⟨b1, 0, none⟩ = some (.int .i64 a0_0) ∧ w14.cell? ⟨b5, 0, none⟩ = some (.int .i64 a1_0) ∧ w14.cell? ⟨b1, 1, none⟩ = some (.int .i64 a0_1) ∧ w14.cell? ⟨b5, 1, none⟩ = some (.int .i64 a1_1) ∧ True := ⟨(cell_blk hB4 rfl), (cell_blk hB9 rfl), (cell_blk hB4 rfl), (cell_blk hB9 rfl), trivial⟩
  refine ⟨hS, ?_⟩
  refine dw_l 13 16383 rfl (by kernel_rfl) rfl (ok_call c_cmp_Compare_int rfl (Calls.mono h (fun e20 w21 hq22 => ?_)))
  clear h
  obtain ⟨r24, he23, hk25, hk26, h⟩ := hq22
  refine ⟨_, he23, ?_⟩
  replace hB4 := hk25.trans hB4
  replace hB9 := hk26.trans hB9
  replace hx : Ext w21 w21 := Chg.refl _
  replace hS : w21.cell? ⟨b1, 0, none⟩ = some (.int .i64 a0_0) ∧ w21.cell? ⟨b5, 0, none⟩ = some (.int .i64 a1_0) ∧ w21.cell? ⟨b1, 1, none⟩ = some (.int .i64 a0_1) ∧ w21.cell? ⟨b5, 1, none⟩ = some (.int .i64 a1_1) ∧ True := ⟨(cell_blk hB4 rfl), (cell_blk hB9 rfl), (cell_blk hB4 rfl), (cell_blk hB9 rfl), trivial⟩
  refine ⟨hS, ?_⟩
  refine dw_l 14 32767 rfl (by kernel_rfl) rfl (bs_sl_int (len := 2) (vs := [(0, .int .i64 r17), (1, .int .i64 r24)]) (cs := #[.int .i64 r17, .int .i64 r24]) (by decide) rfl rfl (fun b27 w28 hN29 => ?_))
  replace hB4 := hN29.ext.get hB4
  replace hB9 := hN29.ext.get hB9
  replace h := h b27 w28 hN29
  replace hx : Ext w28 w28 := Chg.refl _
  replace hS : w28.cell? ⟨b1, 0, none⟩ = some (.int .i64 a0_0) ∧ w28.cell? ⟨b5, 0, none⟩ = some (.int .i64 a1_0) ∧ w28.cell? ⟨b1, 1, none⟩ = some (.int .i64 a0_1) ∧ w28.cell? ⟨b5, 1, none⟩ = some (.int .i64 a1_1) ∧ True := ⟨(cell_blk hB4 rfl), (cell_blk hB9 rfl), (cell_blk hB4 rfl), (cell_blk hB9 rfl), trivial⟩
  refine ⟨hS, ?_⟩
  refine dw_l 15 65535 rfl (by kernel_rfl) rfl (ok_call c_cmp_Or_int rfl (Calls.mono h (fun e30 w31 hq32 => ?_)))
  clear h
  obtain ⟨r34, he33, hk35, hk36, h⟩ := hq32
  refine ⟨_, he33, ?_⟩
  replace hB4 := hk35.trans hB4
  replace hB9 := hk36.trans hB9
  replace hx : Ext w31 w31 := Chg.refl _
  replace hS : w31.cell? ⟨b1, 0, none⟩ = some (.int .i64 a0_0) ∧ w31.cell? ⟨b5, 0, none⟩ = some (.int .i64 a1_0) ∧ w31.cell? ⟨b1, 1, none⟩ = some (.int .i64 a0_1) ∧ w31.cell? ⟨b5, 1, none⟩ = some (.int .i64 a1_1) ∧ True := ⟨(cell_blk hB4 rfl), (cell_blk hB9 rfl), (cell_blk hB4 rfl), (cell_blk hB9 rfl), trivial⟩
  refine ⟨hS, ?_⟩
  refine dw_t 16 131071 rfl (by kernel_rfl) rfl hS (fun _ _ => (r_as rfl)) ?_
  refine dw_d (by kernel_rfl) ?_
  clear hS
  refine cw_ret ?_
  exact rs_1 (rt rfl) ⟨r34, rfl, h⟩
end Go.Proofs.Ytcgeeddhneopfaa.G
