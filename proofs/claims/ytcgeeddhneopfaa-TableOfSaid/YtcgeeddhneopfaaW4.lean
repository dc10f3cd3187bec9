/- What is to be shown of each function, and that it is enough. -/
import Derived.Test.YtcgeeddhneopfaaT
set_option linter.unusedVariables false
namespace Go.Proofs.Ytcgeeddhneopfaa.G
open Go Go.RowKit
def VC_ref20_Count (a0 : Sl) (a1 : Sl) (R : Int → Bool → World → Prop) (w : World) : Prop :=
  ∃ (I4 : Sl → Sl → Int → World → Prop) (μ5 : Sl → Sl → Int → World → Nat), I4 (⟨none, 0, 0⟩ : Sl) (⟨none, 0, 0⟩ : Sl) 0 w ∧ ∀ (l1 : Sl) (l2 : Sl) (l3 : Int) (w7 : World), I4 l1 l2 l3 w7 → ((l3 < ((a1.n : Nat) : Int) → (∃ k11 : Nat, l3 = ((k11 : Nat) : Int) ∧ k11 < a1.n ∧ (∃ (b13 o14 : Nat), a1.b = some ⟨b13, o14, none⟩ ∧ (∃ v16 : Int, w7.cell? ⟨b13, o14 + k11 * 2 + 1, none⟩ = some (.int .i64 v16) ∧ (∃ xs26 : List Value, Own w7 t_int 1 l1 xs26 ∧ ((l1.n + 1) * 8 ≤ 140737488355328 ∧ l1.n + 1 ≤ maxLen) ∧ (∀ (s23 : Sl) (w22 : World), App w7 t_int 1 l1 xs26 1 [.int .i64 v16] s23 w22 → (∃ v29 : ByteArray, w22.cell? ⟨b13, o14 + k11 * 2, none⟩ = some (.string v29) ∧ (Calls PP n_ref20_Split #[a0.v, .string v29] w22 (fun e w32 => ∃ r35 : Sl, e = .returned (r35.v) ∧ (∃ xs44 : List Value, Own w32 t_int 1 l2 xs44 ∧ ((l2.n + 1) * 8 ≤ 140737488355328 ∧ l2.n + 1 ≤ maxLen) ∧ (∀ (s41 : Sl) (w40 : World), App w32 t_int 1 l2 xs44 1 [.int .i64 ((r35.n : Nat) : Int)] s41 w40 → (∃ z47 : Int, z47 = IntKind.wrap .i64 (((k11 : Nat) : Int) + 1) ∧ (I4 s23 s41 z47 w40 ∧ μ5 s23 s41 z47 w40 < μ5 l1 l2 l3 w7))))))))))))) ∧ (¬ (l3 < ((a1.n : Nat) : Int)) → (Calls PP n_ref06_Dot #[l1.v, l2.v] w7 (fun e w49 => ∃ r52_0 : Int, ∃ r52_1 : Bool, e = .returned (.tuple #[.int .i64 r52_0, .bool r52_1]) ∧ (R r52_0 r52_1 w49)))))
set_option maxRecDepth 100000 in
theorem vc_ref20_Count {a0 : Sl} {a1 : Sl} {R : Int → Bool → World → Prop} {w : World} (h : VC_ref20_Count a0 a1 R w) : Calls PP n_ref20_Count #[a0.v, a1.v] w fun e w' => ∃ r0 : Int, ∃ r1 : Bool, e = .returned (.tuple #[.int .i64 r0, .bool r1]) ∧ R r0 r1 w' := by
  refine Calls.mono (calls_of_cw (n := 39) (rs := #[.tmp 4, .tmp 5]) (args := [a0.v, a1.v]) (R := fun v w' => ∃ r0 : Int, ∃ r1 : Bool, v = .tuple #[.int .i64 r0, .bool r1] ∧ R r0 r1 w') Try.func42 rfl rfl (Nat.le_of_ble_eq_true rfl) rfl ?_) ?_
  case refine_2 => rintro e w' ⟨v, rfl, hr⟩; obtain ⟨r0, r1, rfl, hr⟩ := hr; exact ⟨r0, r1, rfl, hr⟩
  have hx : Ext w w := Chg.refl _
  unfold VC_ref20_Count at h
  refine cw_seq ?_
  refine cw_region ?_
  refine sl_v rfl (r_as rfl) ?_
  refine sl_v rfl (r_as rfl) ?_
  refine sl_nil ?_
  refine cw_seq ?_
  refine cw_region ?_
  refine sl_v rfl (r_as rfl) ?_
  refine sl_v rfl (r_as rfl) ?_
  refine sl_nil ?_
  refine cw_seq ?_
  refine cw_seq ?_
  refine cw_region ?_
  refine sl_v rfl (r_as rfl) ?_
  refine sl_nil ?_
  refine cw_block ?_
  obtain ⟨I4, μ5, hI6, h⟩ := h
  refine cw_loop (σ := Sl × Sl × Int) (fun s g => (upd (upd (upd (upd (upd g 0 (a0.v)) 1 (a1.v)) 6 (s.1.v)) 7 (s.2.1.v)) 8 (.int .i64 s.2.2))) (fun s w => I4 s.1 s.2.1 s.2.2 w) (fun s w => μ5 s.1 s.2.1 s.2.2 w) ((⟨none, 0, 0⟩ : Sl), (⟨none, 0, 0⟩ : Sl), 0) _ (kp (kp (kp (kp (kp rfl rfl) rfl) rfl) rfl) rfl) hI6 ?_
  rintro ⟨l1, l2, l3⟩ g8 w7 hi9
  replace h := h l1 l2 l3 w7 hi9
  have hx : Ext w7 w7 := Chg.refl _
  change CW PP _ _ _ (upd (upd (upd (upd (upd g8 0 (a0.v)) 1 (a1.v)) 6 (l1.v)) 7 (l2.v)) 8 (.int .i64 l3)) _
  refine cw_seq ?_
  refine cw_seq ?_
  refine cw_region ?_
  refine sl_v rfl (r_mv rfl) ?_
  refine sl_v rfl (r_mv rfl) ?_
  refine sl_v rfl (r_len_l (s := a1) rfl rfl Try.underlying50) ?_
  refine sl_v rfl (r_lss rfl rfl) ?_
  refine sl_nil ?_
  refine bcases (decide (l3 < ((a1.n : Nat) : Int))) (fun hb10 => ?_) (fun hb10 => ?_)
  · replace h := h.1 (of_decide_eq_true hb10)
    refine cw_ct rfl hb10 ?_
    refine cw_skip ?_
    refine cw_seq ?_
    refine cw_block ?_
    refine cw_seq ?_
    refine cw_region ?_
    refine sl_v rfl (r_mv rfl) ?_
    refine sl_v rfl (r_mv rfl) ?_
    refine sl_v rfl (r_mv rfl) ?_
    obtain ⟨k11, rfl, hk12, h⟩ := h
    obtain ⟨b13, o14, hb15, h⟩ := h
    refine sl_v rfl (ia_sl_api_Word (s := a1) (j := k11) (o' := o14 + k11 * 2) rfl rfl hk12 hb15 rfl) ?_
    refine sl_v rfl (fa_api_Word_1 (o' := o14 + k11 * 2 + 1) rfl rfl) ?_
    obtain ⟨v16, hc17, h⟩ := h
    refine sl_v rfl (ld_int rfl hc17) ?_
    refine sl_op rfl (bs_sl_int (len := 1) (vs := [(0, .int .i64 v16)]) (cs := #[.int .i64 v16]) (by decide) rfl rfl (fun b18 w19 hN20 => ?_))
    have hB21 := hN20.here
    replace hx := hx.tr hN20.ext
    obtain ⟨xs26, ho27, hb28, h⟩ := h
    refine sl_op rfl (ap_sl_int (s := l1) (xs := xs26) (m := 1) (news := [.int .i64 v16]) rfl rfl hx ho27 (.c (cell_blk hB21 rfl) .n) rfl rfl hb28 (fun s23 w22 ha24 hc25 => ?_))
    replace h := h s23 w22 ha24
    replace hx : Ext w22 w22 := Chg.refl _
    refine sl_v rfl (r_as rfl) ?_
    refine sl_nil ?_
    refine cw_region ?_
    refine sl_v rfl (r_mv rfl) ?_
    refine sl_v rfl (r_mv rfl) ?_
    refine sl_v rfl (r_mv rfl) ?_
    refine sl_v rfl (r_mv rfl) ?_
    refine sl_v rfl (ia_sl_api_Word (s := a1) (j := k11) (o' := o14 + k11 * 2) rfl rfl hk12 hb15 rfl) ?_
    refine sl_v rfl (fa_api_Word_0 (o' := o14 + k11 * 2) rfl rfl) ?_
    obtain ⟨v29, hc30, h⟩ := h
    refine sl_v rfl (ld_string rfl hc30) ?_
    refine sl_op rfl (ok_call c_ref20_Split rfl (Calls.mono h (fun e31 w32 hq33 => ?_)))
    clear h
    obtain ⟨r35, he34, h⟩ := hq33
    refine ⟨_, he34, ?_⟩
    replace hx : Ext w32 w32 := Chg.refl _
    refine sl_v rfl (r_len_l (s := r35) rfl rfl Try.underlying37) ?_
    refine sl_op rfl (bs_sl_int (len := 1) (vs := [(0, .int .i64 ((r35.n : Nat) : Int))]) (cs := #[.int .i64 ((r35.n : Nat) : Int)]) (by decide) rfl rfl (fun b36 w37 hN38 => ?_))
    have hB39 := hN38.here
    replace hx := hx.tr hN38.ext
    obtain ⟨xs44, ho45, hb46, h⟩ := h
    refine sl_op rfl (ap_sl_int (s := l2) (xs := xs44) (m := 1) (news := [.int .i64 ((r35.n : Nat) : Int)]) rfl rfl hx ho45 (.c (cell_blk hB39 rfl) .n) rfl rfl hb46 (fun s41 w40 ha42 hc43 => ?_))
    replace h := h s41 w40 ha42
    replace hx : Ext w40 w40 := Chg.refl _
    refine sl_v rfl (r_as rfl) ?_
    refine sl_nil ?_
    refine cw_region ?_
    refine sl_v rfl (r_mv rfl) ?_
    obtain ⟨z47, hz47, h⟩ := h
    refine sl_v rfl (r_add rfl rfl hz47) ?_
    refine sl_v rfl (r_as rfl) ?_
    refine sl_nil ?_
    exact ⟨(s23, s41, z47), _, (kp (kp (kp (kp (kp rfl rfl) rfl) rfl) rfl) rfl), h.1, h.2⟩
  · replace h := h.2 (of_decide_eq_false hb10)
    refine cw_cf rfl hb10 ?_
    refine cw_exit ?_
    refine cw_seq ?_
    refine cw_region ?_
    refine sl_v rfl (r_mv rfl) ?_
    refine sl_v rfl (r_mv rfl) ?_
    refine sl_op rfl (ok_call c_ref06_Dot rfl (Calls.mono h (fun e48 w49 hq50 => ?_)))
    clear h
    obtain ⟨r52_0, r52_1, he51, h⟩ := hq50
    refine ⟨_, he51, ?_⟩
    replace hx : Ext w49 w49 := Chg.refl _
    refine sl_v rfl (r_ex rfl rfl) ?_
    refine sl_v rfl (r_ex rfl rfl) ?_
    refine sl_v rfl (r_as rfl) ?_
    refine sl_v rfl (r_as rfl) ?_
    refine sl_nil ?_
    refine cw_ret ?_
    exact rs_2 (rt rfl) (rt rfl) ⟨r52_0, r52_1, rfl, h⟩

def VC_ref20_Split (a0 : Sl) (a1 : ByteArray) (R : Sl → World → Prop) (w : World) : Prop :=
  Calls PP n_ref16_Texts #[.string a1] w (fun e w2 => ∃ r5 : Sl, e = .returned (r5.v) ∧ (∃ (I8 : Sl → Int → World → Prop) (μ9 : Sl → Int → World → Nat), I8 r5 0 w2 ∧ ∀ (l6 : Sl) (l7 : Int) (w11 : World), I8 l6 l7 w11 → ((l7 < ((a0.n : Nat) : Int) → (∃ k15 : Nat, l7 = ((k15 : Nat) : Int) ∧ k15 < a0.n ∧ (∃ (b17 o18 : Nat), a0.b = some ⟨b17, o18, none⟩ ∧ (∃ v20_0 : ByteArray, ∃ v20_1 : ByteArray, Cells w11 b17 (o18 + k15 * 2) [.string v20_0, .string v20_1] ∧ (Calls PP n_ref16_Join #[l6.v, .agg #[.string v20_0, .string v20_1]] w11 (fun e w23 => ∃ r26 : Sl, e = .returned (r26.v) ∧ (∃ z27 : Int, z27 = IntKind.wrap .i64 (((k15 : Nat) : Int) + 1) ∧ (I8 r26 z27 w23 ∧ μ9 r26 z27 w23 < μ9 l6 l7 w11)))))))) ∧ (¬ (l7 < ((a0.n : Nat) : Int)) → (R l6 w11)))))
set_option maxRecDepth 100000 in
theorem vc_ref20_Split {a0 : Sl} {a1 : ByteArray} {R : Sl → World → Prop} {w : World} (h : VC_ref20_Split a0 a1 R w) : Calls PP n_ref20_Split #[a0.v, .string a1] w fun e w' => ∃ r0 : Sl, e = .returned (r0.v) ∧ R r0 w' := by
  refine Calls.mono (calls_of_cw (n := 22) (rs := #[.tmp 4]) (args := [a0.v, .string a1]) (R := fun v w' => ∃ r0 : Sl, v = r0.v ∧ R r0 w') Try.func43 rfl rfl (Nat.le_of_ble_eq_true rfl) rfl ?_) ?_
  case refine_2 => rintro e w' ⟨v, rfl, hr⟩; obtain ⟨r0, rfl, hr⟩ := hr; exact ⟨r0, rfl, hr⟩
  have hx : Ext w w := Chg.refl _
  unfold VC_ref20_Split at h
  refine cw_seq ?_
  refine cw_region ?_
  refine sl_v rfl (r_as rfl) ?_
  refine sl_nil ?_
  refine cw_seq ?_
  refine cw_region ?_
  refine sl_v rfl (r_mv rfl) ?_
  refine sl_op rfl (ok_call c_ref16_Texts rfl (Calls.mono h (fun e1 w2 hq3 => ?_)))
  clear h
  obtain ⟨r5, he4, h⟩ := hq3
  refine ⟨_, he4, ?_⟩
  replace hx : Ext w2 w2 := Chg.refl _
  refine sl_v rfl (r_as rfl) ?_
  refine sl_nil ?_
  refine cw_seq ?_
  refine cw_seq ?_
  refine cw_region ?_
  refine sl_v rfl (r_as rfl) ?_
  refine sl_nil ?_
  refine cw_block ?_
  obtain ⟨I8, μ9, hI10, h⟩ := h
  refine cw_loop (σ := Sl × Int) (fun s g => (upd (upd (upd g 0 (a0.v)) 5 (s.1.v)) 6 (.int .i64 s.2))) (fun s w => I8 s.1 s.2 w) (fun s w => μ9 s.1 s.2 w) (r5, 0) _ (kp (kp (kp rfl rfl) rfl) rfl) hI10 ?_
  rintro ⟨l6, l7⟩ g12 w11 hi13
  replace h := h l6 l7 w11 hi13
  have hx : Ext w11 w11 := Chg.refl _
  change CW PP _ _ _ (upd (upd (upd g12 0 (a0.v)) 5 (l6.v)) 6 (.int .i64 l7)) _
  refine cw_seq ?_
  refine cw_seq ?_
  refine cw_region ?_
  refine sl_v rfl (r_mv rfl) ?_
  refine sl_v rfl (r_mv rfl) ?_
  refine sl_v rfl (r_len_l (s := a0) rfl rfl Try.underlying22) ?_
  refine sl_v rfl (r_lss rfl rfl) ?_
  refine sl_nil ?_
  refine bcases (decide (l7 < ((a0.n : Nat) : Int))) (fun hb14 => ?_) (fun hb14 => ?_)
  · replace h := h.1 (of_decide_eq_true hb14)
    refine cw_ct rfl hb14 ?_
    refine cw_skip ?_
    refine cw_seq ?_
    refine cw_block ?_
    refine cw_region ?_
    refine sl_v rfl (r_mv rfl) ?_
    refine sl_v rfl (r_mv rfl) ?_
    refine sl_v rfl (r_mv rfl) ?_
    obtain ⟨k15, rfl, hk16, h⟩ := h
    obtain ⟨b17, o18, hb19, h⟩ := h
    refine sl_v rfl (ia_sl_api_Merge (s := a0) (j := k15) (o' := o18 + k15 * 2) rfl rfl hk16 hb19 rfl) ?_
    obtain ⟨v20_0, v20_1, hc21, h⟩ := h
    refine sl_v rfl (lda_api_Merge rfl rfl hc21) ?_
    refine sl_op rfl (ok_call c_ref16_Join rfl (Calls.mono h (fun e22 w23 hq24 => ?_)))
    clear h
    obtain ⟨r26, he25, h⟩ := hq24
    refine ⟨_, he25, ?_⟩
    replace hx : Ext w23 w23 := Chg.refl _
    refine sl_v rfl (r_as rfl) ?_
    refine sl_nil ?_
    refine cw_region ?_
    refine sl_v rfl (r_mv rfl) ?_
    obtain ⟨z27, hz27, h⟩ := h
    refine sl_v rfl (r_add rfl rfl hz27) ?_
    refine sl_v rfl (r_as rfl) ?_
    refine sl_nil ?_
    exact ⟨(r26, z27), _, (kp (kp (kp rfl rfl) rfl) rfl), h.1, h.2⟩
  · replace h := h.2 (of_decide_eq_false hb14)
    refine cw_cf rfl hb14 ?_
    refine cw_exit ?_
    refine cw_seq ?_
    refine cw_region ?_
    refine sl_v rfl (r_mv rfl) ?_
    refine sl_v rfl (r_as rfl) ?_
    refine sl_nil ?_
    refine cw_ret ?_
    exact rs_1 (rt rfl) ⟨l6, rfl, h⟩

def VC_ref01_Ints (a0 : Sl) (a1 : Sl) (R : Bool → World → Prop) (w : World) : Prop :=
  (((a0.n : Nat) : Int) ≠ ((a1.n : Nat) : Int) → (R false w)) ∧ (¬ (((a0.n : Nat) : Int) ≠ ((a1.n : Nat) : Int)) → (∃ (I3 : Int → World → Prop) (μ4 : Int → World → Nat), I3 0 w ∧ ∀ (l2 : Int) (w6 : World), I3 l2 w6 → ((l2 < ((a0.n : Nat) : Int) → (∃ k12 : Nat, l2 = ((k12 : Nat) : Int) ∧ k12 < a0.n ∧ (∃ (b14 o15 : Nat), a0.b = some ⟨b14, o15, none⟩ ∧ (∃ v17 : Int, w6.cell? ⟨b14, o15 + k12 * 1, none⟩ = some (.int .i64 v17) ∧ (k12 < a1.n ∧ (∃ (b20 o21 : Nat), a1.b = some ⟨b20, o21, none⟩ ∧ (∃ v23 : Int, w6.cell? ⟨b20, o21 + k12 * 1, none⟩ = some (.int .i64 v23) ∧ ((v17 ≠ v23 → (∀ w10 : World, Ext w6 w10 → (R false w10))) ∧ (¬ (v17 ≠ v23) → (∃ z27 : Int, z27 = IntKind.wrap .i64 (((k12 : Nat) : Int) + 1) ∧ (∀ w10 : World, Ext w6 w10 → (I3 z27 w10 ∧ μ4 z27 w10 < μ4 l2 w6)))))))))))) ∧ (¬ (l2 < ((a0.n : Nat) : Int)) → (R true w6)))))
set_option maxRecDepth 100000 in
theorem vc_ref01_Ints {a0 : Sl} {a1 : Sl} {R : Bool → World → Prop} {w : World} (h : VC_ref01_Ints a0 a1 R w) : Calls PP n_ref01_Ints #[a0.v, a1.v] w fun e w' => ∃ r0 : Bool, e = .returned (.bool r0) ∧ R r0 w' := by
  refine Calls.mono (calls_of_cw (n := 26) (rs := #[.tmp 4]) (args := [a0.v, a1.v]) (R := fun v w' => ∃ r0 : Bool, v = .bool r0 ∧ R r0 w') Try.func44 rfl rfl (Nat.le_of_ble_eq_true rfl) rfl ?_) ?_
  case refine_2 => rintro e w' ⟨v, rfl, hr⟩; obtain ⟨r0, rfl, hr⟩ := hr; exact ⟨r0, rfl, hr⟩
  have hx : Ext w w := Chg.refl _
  unfold VC_ref01_Ints at h
  refine cw_seq ?_
  refine cw_region ?_
  refine sl_v rfl (r_as rfl) ?_
  refine sl_nil ?_
  refine cw_seq ?_
  refine cw_seq ?_
  refine cw_region ?_
  refine sl_v rfl (r_mv rfl) ?_
  refine sl_v rfl (r_len_l (s := a0) rfl rfl Try.underlying69) ?_
  refine sl_v rfl (r_mv rfl) ?_
  refine sl_v rfl (r_len_l (s := a1) rfl rfl Try.underlying69) ?_
  refine sl_v rfl (r_neq rfl rfl) ?_
  refine sl_nil ?_
  refine bcases (decide (((a0.n : Nat) : Int) ≠ ((a1.n : Nat) : Int))) (fun hb1 => ?_) (fun hb1 => ?_)
  · replace h := h.1 (of_decide_eq_true hb1)
    refine cw_ct rfl hb1 ?_
    refine cw_seq ?_
    refine cw_region ?_
    refine sl_v rfl (r_as rfl) ?_
    refine sl_nil ?_
    refine cw_ret ?_
    exact rs_1 (rt rfl) ⟨false, rfl, h⟩
  · replace h := h.2 (of_decide_eq_false hb1)
    refine cw_cf rfl hb1 ?_
    refine cw_skip ?_
    refine cw_seq ?_
    refine cw_seq ?_
    refine cw_region ?_
    refine sl_v rfl (r_as rfl) ?_
    refine sl_nil ?_
    refine cw_block ?_
    obtain ⟨I3, μ4, hI5, h⟩ := h
    refine cw_loop (σ := Int) (fun s g => (upd (upd (upd g 0 (a0.v)) 1 (a1.v)) 5 (.int .i64 s))) (fun s w => I3 s w) (fun s w => μ4 s w) (0) _ (kp (kp (kp rfl rfl) rfl) rfl) hI5 ?_
    rintro l2 g7 w6 hi8
    replace h := h l2 w6 hi8
    have hx : Ext w6 w6 := Chg.refl _
    change CW PP _ _ _ (upd (upd (upd g7 0 (a0.v)) 1 (a1.v)) 5 (.int .i64 l2)) _
    refine cw_seq ?_
    refine cw_seq ?_
    refine cw_region ?_
    refine sl_v rfl (r_mv rfl) ?_
    refine sl_v rfl (r_mv rfl) ?_
    refine sl_v rfl (r_len_l (s := a0) rfl rfl Try.underlying69) ?_
    refine sl_v rfl (r_lss rfl rfl) ?_
    refine sl_nil ?_
    refine bcases (decide (l2 < ((a0.n : Nat) : Int))) (fun hb9 => ?_) (fun hb9 => ?_)
    · replace h := h.1 (of_decide_eq_true hb9)
      refine cw_ct rfl hb9 ?_
      refine cw_skip ?_
      refine cw_seq ?_
      refine cw_block ?_
      refine cw_seq ?_
      refine cw_still mo (by kernel_rfl) (fun w10 hd11 => ?_)
      replace hx := hx.tr (Ext.of_drew hd11)
      refine st_v rfl (r_mv rfl) ?_
      refine st_v rfl (r_mv rfl) ?_
      obtain ⟨k12, rfl, hk13, h⟩ := h
      obtain ⟨b14, o15, hb16, h⟩ := h
      refine st_v rfl (ia_sl_int (s := a0) (j := k12) (o' := o15 + k12 * 1) rfl rfl hk13 hb16 rfl) ?_
      obtain ⟨v17, hc18, h⟩ := h
      refine st_v rfl (ld_int rfl (hx.cell hc18)) ?_
      refine st_v rfl (r_mv rfl) ?_
      refine st_v rfl (r_mv rfl) ?_
      obtain ⟨hk19, h⟩ := h
      obtain ⟨b20, o21, hb22, h⟩ := h
      refine st_v rfl (ia_sl_int (s := a1) (j := k12) (o' := o21 + k12 * 1) rfl rfl hk19 hb22 rfl) ?_
      obtain ⟨v23, hc24, h⟩ := h
      refine st_v rfl (ld_int rfl (hx.cell hc24)) ?_
      refine st_v rfl (r_neq rfl rfl) ?_
      refine st_nil ?_
      refine bcases (decide (v17 ≠ v23)) (fun hb25 => ?_) (fun hb25 => ?_)
      · replace h := h.1 (of_decide_eq_true hb25)
        refine cw_ct rfl hb25 ?_
        refine cw_seq ?_
        refine cw_region ?_
        refine sl_v rfl (r_as rfl) ?_
        refine sl_nil ?_
        refine cw_ret ?_
        replace h := h _ hx
        replace hx : Ext w10 w10 := Chg.refl _
        exact rs_1 (rt rfl) ⟨false, rfl, h⟩
      · replace h := h.2 (of_decide_eq_false hb25)
        refine cw_cf rfl hb25 ?_
        refine cw_skip ?_
        refine cw_region ?_
        refine sl_v rfl (r_mv rfl) ?_
        obtain ⟨z27, hz27, h⟩ := h
        refine sl_v rfl (r_add rfl rfl hz27) ?_
        refine sl_v rfl (r_as rfl) ?_
        refine sl_nil ?_
        replace h := h _ hx
        replace hx : Ext w10 w10 := Chg.refl _
        exact ⟨(z27), _, (kp (kp (kp rfl rfl) rfl) rfl), h.1, h.2⟩
    · replace h := h.2 (of_decide_eq_false hb9)
      refine cw_cf rfl hb9 ?_
      refine cw_exit ?_
      refine cw_seq ?_
      refine cw_region ?_
      refine sl_v rfl (r_as rfl) ?_
      refine sl_nil ?_
      refine cw_ret ?_
      exact rs_1 (rt rfl) ⟨true, rfl, h⟩

def VC_apply_Coder_Encode (a0 : Option Addr) (a1 : ByteArray) (R : Sl → World → Prop) (w : World) : Prop :=
  (a0 = none → (R (⟨none, 0, 0⟩ : Sl) w)) ∧ (¬ (a0 = none) → (Calls PP n_seq_New #[.string a1] w (fun e w3 => ∃ r6 : Option Addr, e = .returned (.pointer r6) ∧ (∃ (I8 : Int → World → Prop) (μ9 : Int → World → Nat), I8 0 w3 ∧ ∀ (l7 : Int) (w11 : World), I8 l7 w11 → (Calls PP n_apply_Coder_next #[.pointer a0, .pointer r6, .int .i64 l7] w11 (fun e w15 => ∃ r18_0_0 : Int, ∃ r18_0_1 : Int, ∃ r18_1 : Int, ∃ r18_2 : Bool, e = .returned (.tuple #[.agg #[.int .i64 r18_0_0, .int .i64 r18_0_1], .int .i64 r18_1, .bool r18_2]) ∧ (∀ (b19 : Nat) (w20 : World), Priv w15 b19 w20 → (∀ w23 : World, Chg (fun b => b = b19) w20 w23 → ((r18_2 = true → (Calls PP n_seq_Seq_Merge #[.pointer r6, .agg #[.int .i64 r18_0_0, .int .i64 r18_0_1], .int .i64 r18_1] w23 (fun e w27 => ∃ r30_0 : Int, ∃ r30_1 : Sl, e = .returned (.tuple #[.int .i64 r30_0, r30_1.v]) ∧ w27.heap[b19]? = w23.heap[b19]? ∧ (I8 r18_1 w27 ∧ μ9 r18_1 w27 < μ9 l7 w11)))) ∧ (r18_2 = false → (Calls PP n_seq_Seq_Symbols #[.pointer r6] w23 (fun e w33 => ∃ r36 : Sl, e = .returned (r36.v) ∧ w33.heap[b19]? = w23.heap[b19]? ∧ (R r36 w33)))))))))))))
set_option maxRecDepth 100000 in
theorem vc_apply_Coder_Encode {a0 : Option Addr} {a1 : ByteArray} {R : Sl → World → Prop} {w : World} (h : VC_apply_Coder_Encode a0 a1 R w) : Calls PP n_apply_Coder_Encode #[.pointer a0, .string a1] w fun e w' => ∃ r0 : Sl, e = .returned (r0.v) ∧ R r0 w' := by
  refine Calls.mono (calls_of_cw (n := 31) (rs := #[.tmp 4]) (args := [.pointer a0, .string a1]) (R := fun v w' => ∃ r0 : Sl, v = r0.v ∧ R r0 w') Try.func45 rfl rfl (Nat.le_of_ble_eq_true rfl) rfl ?_) ?_
  case refine_2 => rintro e w' ⟨v, rfl, hr⟩; obtain ⟨r0, rfl, hr⟩ := hr; exact ⟨r0, rfl, hr⟩
  have hx : Ext w w := Chg.refl _
  unfold VC_apply_Coder_Encode at h
  refine cw_seq ?_
  refine cw_region ?_
  refine sl_v rfl (r_as rfl) ?_
  refine sl_nil ?_
  refine cw_seq ?_
  refine cw_seq ?_
  refine cw_region ?_
  refine sl_v rfl (r_mv rfl) ?_
  refine sl_v rfl (p_eqn rfl rfl Try.underlying61) ?_
  refine sl_nil ?_
  refine bcases (decide (a0 = none)) (fun hb1 => ?_) (fun hb1 => ?_)
  · replace h := h.1 (of_decide_eq_true hb1)
    refine cw_ct rfl hb1 ?_
    refine cw_seq ?_
    refine cw_region ?_
    refine sl_v rfl (r_as rfl) ?_
    refine sl_nil ?_
    refine cw_ret ?_
    exact rs_1 (rt rfl) ⟨(⟨none, 0, 0⟩ : Sl), rfl, h⟩
  · replace h := h.2 (of_decide_eq_false hb1)
    refine cw_cf rfl hb1 ?_
    refine cw_skip ?_
    refine cw_seq ?_
    refine cw_region ?_
    refine sl_v rfl (r_mv rfl) ?_
    refine sl_op rfl (ok_call c_seq_New rfl (Calls.mono h (fun e2 w3 hq4 => ?_)))
    clear h
    obtain ⟨r6, he5, h⟩ := hq4
    refine ⟨_, he5, ?_⟩
    replace hx : Ext w3 w3 := Chg.refl _
    refine sl_v rfl (r_as rfl) ?_
    refine sl_nil ?_
    refine cw_seq ?_
    refine cw_region ?_
    refine sl_v rfl (r_as rfl) ?_
    refine sl_nil ?_
    refine cw_block ?_
    obtain ⟨I8, μ9, hI10, h⟩ := h
    refine cw_loop (σ := Int) (fun s g => (upd (upd (upd g 0 (.pointer a0)) 5 (.pointer r6)) 6 (.int .i64 s))) (fun s w => I8 s w) (fun s w => μ9 s w) (0) _ (kp (kp (kp rfl rfl) rfl) rfl) hI10 ?_
    rintro l7 g12 w11 hi13
    replace h := h l7 w11 hi13
    have hx : Ext w11 w11 := Chg.refl _
    change CW PP _ _ _ (upd (upd (upd g12 0 (.pointer a0)) 5 (.pointer r6)) 6 (.int .i64 l7)) _
    refine cw_block ?_
    refine cw_seq ?_
    refine cw_region ?_
    refine sl_v rfl (r_mv rfl) ?_
    refine sl_v rfl (r_mv rfl) ?_
    refine sl_v rfl (r_mv rfl) ?_
    refine sl_op rfl (ok_call c_apply_Coder_next rfl (Calls.mono h (fun e14 w15 hq16 => ?_)))
    clear h
    obtain ⟨r18_0_0, r18_0_1, r18_1, r18_2, he17, h⟩ := hq16
    refine ⟨_, he17, ?_⟩
    replace hx : Ext w15 w15 := Chg.refl _
    refine sl_v rfl (r_mv rfl) ?_
    refine sl_v rfl (r_ex rfl rfl) ?_
    refine sl_v rfl (r_ex rfl rfl) ?_
    refine sl_v rfl (r_ex rfl rfl) ?_
    refine sl_op rfl (al_api_Pair rfl (fun b19 w20 hN21 => ?_))
    have hB22 := hN21.here
    replace h := h b19 w20 ⟨hx.tr hN21.ext, Nat.le_trans hx.size hN21.fresh, lt_of_blk hN21.here⟩
    replace hx : Ext w20 w20 := Chg.refl _
    refine sl_op rfl (st_api_Pair (vs := [.int .i64 r18_0_0, .int .i64 r18_0_1]) rfl rfl rfl rfl rfl ⟨_, _, hB22, Nat.le_of_ble_eq_true rfl⟩ (fun w23 hw24 => ?_))
    have hc_ := sto_chg hw24
    replace hB22 : w23.heap[b19]? = some (.cells #[.int .i64 r18_0_0, .int .i64 r18_0_1] t_api_Pair (0, 0)) := sto_blk hw24 hB22
    replace h := h w23 (Chg.pre hx hc_)
    replace hx : Ext w23 w23 := Chg.refl _
    clear hc_
    refine sl_v rfl (r_as rfl) ?_
    refine sl_v rfl (r_as rfl) ?_
    refine sl_nil ?_
    refine cw_seq ?_
    refine cw_seq ?_
    refine cw_region ?_
    refine sl_v rfl (r_mv rfl) ?_
    refine sl_v rfl (r_not rfl) ?_
    refine sl_nil ?_
    refine bcases (r18_2) (fun hb25 => ?_) (fun hb25 => ?_)
    · replace h := h.1 hb25
      refine cw_cf rfl (nt hb25) ?_
      refine cw_skip ?_
      refine cw_seq ?_
      refine cw_region ?_
      refine sl_v rfl (r_mv rfl) ?_
      refine sl_v rfl (lda_api_Pair (vs := [.int .i64 r18_0_0, .int .i64 r18_0_1]) rfl rfl (.c (cell_blk hB22 rfl) (.c (cell_blk hB22 rfl) .n))) ?_
      refine sl_v rfl (r_mv rfl) ?_
      refine sl_op rfl (ok_call c_seq_Seq_Merge rfl (Calls.mono h (fun e26 w27 hq28 => ?_)))
      clear h
      obtain ⟨r30_0, r30_1, he29, hk31, h⟩ := hq28
      refine ⟨_, he29, ?_⟩
      replace hB22 := hk31.trans hB22
      replace hx : Ext w27 w27 := Chg.refl _
      refine sl_nil ?_
      refine cw_region ?_
      refine sl_v rfl (r_mv rfl) ?_
      refine sl_v rfl (r_as rfl) ?_
      refine sl_nil ?_
      exact ⟨(r18_1), _, (kp (kp (kp rfl rfl) rfl) rfl), h.1, h.2⟩
    · replace h := h.2 hb25
      refine cw_ct rfl (nf hb25) ?_
      refine cw_seq ?_
      refine cw_region ?_
      refine sl_v rfl (r_mv rfl) ?_
      refine sl_op rfl (ok_call c_seq_Seq_Symbols rfl (Calls.mono h (fun e32 w33 hq34 => ?_)))
      clear h
      obtain ⟨r36, he35, hk37, h⟩ := hq34
      refine ⟨_, he35, ?_⟩
      replace hB22 := hk37.trans hB22
      replace hx : Ext w33 w33 := Chg.refl _
      refine sl_v rfl (r_as rfl) ?_
      refine sl_nil ?_
      refine cw_ret ?_
      exact rs_1 (rt rfl) ⟨r36, rfl, h⟩

def VC_ref20_Encode (a0 : Sl) (a1 : ByteArray) (R : Sl → World → Prop) (w : World) : Prop :=
  Calls PP n_ref20_Split #[a0.v, .string a1] w (fun e w2 => ∃ r5 : Sl, e = .returned (r5.v) ∧ (∃ (I8 : Sl → Int → World → Prop) (μ9 : Sl → Int → World → Nat), I8 (⟨none, 0, 0⟩ : Sl) 0 w2 ∧ ∀ (l6 : Sl) (l7 : Int) (w11 : World), I8 l6 l7 w11 → ((l7 < ((r5.n : Nat) : Int) → (∃ k15 : Nat, l7 = ((k15 : Nat) : Int) ∧ k15 < r5.n ∧ (∃ (b17 o18 : Nat), r5.b = some ⟨b17, o18, none⟩ ∧ (∃ v20 : ByteArray, w11.cell? ⟨b17, o18 + k15 * 1, none⟩ = some (.string v20) ∧ (Calls PP n_ref20_Symbol #[a0.v, .string v20] w11 (fun e w23 => ∃ r26 : Int, e = .returned (.int .i64 r26) ∧ (∃ xs35 : List Value, Own w23 t_int 1 l6 xs35 ∧ ((l6.n + 1) * 8 ≤ 140737488355328 ∧ l6.n + 1 ≤ maxLen) ∧ (∀ (s32 : Sl) (w31 : World), App w23 t_int 1 l6 xs35 1 [.int .i64 r26] s32 w31 → (∃ z38 : Int, z38 = IntKind.wrap .i64 (((k15 : Nat) : Int) + 1) ∧ (I8 s32 z38 w31 ∧ μ9 s32 z38 w31 < μ9 l6 l7 w11)))))))))) ∧ (¬ (l7 < ((r5.n : Nat) : Int)) → (R l6 w11)))))
set_option maxRecDepth 100000 in
theorem vc_ref20_Encode {a0 : Sl} {a1 : ByteArray} {R : Sl → World → Prop} {w : World} (h : VC_ref20_Encode a0 a1 R w) : Calls PP n_ref20_Encode #[a0.v, .string a1] w fun e w' => ∃ r0 : Sl, e = .returned (r0.v) ∧ R r0 w' := by
  refine Calls.mono (calls_of_cw (n := 27) (rs := #[.tmp 4]) (args := [a0.v, .string a1]) (R := fun v w' => ∃ r0 : Sl, v = r0.v ∧ R r0 w') Try.func46 rfl rfl (Nat.le_of_ble_eq_true rfl) rfl ?_) ?_
  case refine_2 => rintro e w' ⟨v, rfl, hr⟩; obtain ⟨r0, rfl, hr⟩ := hr; exact ⟨r0, rfl, hr⟩
  have hx : Ext w w := Chg.refl _
  unfold VC_ref20_Encode at h
  refine cw_seq ?_
  refine cw_region ?_
  refine sl_v rfl (r_as rfl) ?_
  refine sl_nil ?_
  refine cw_seq ?_
  refine cw_region ?_
  refine sl_v rfl (r_as rfl) ?_
  refine sl_nil ?_
  refine cw_seq ?_
  refine cw_region ?_
  refine sl_v rfl (r_mv rfl) ?_
  refine sl_v rfl (r_mv rfl) ?_
  refine sl_op rfl (ok_call c_ref20_Split rfl (Calls.mono h (fun e1 w2 hq3 => ?_)))
  clear h
  obtain ⟨r5, he4, h⟩ := hq3
  refine ⟨_, he4, ?_⟩
  replace hx : Ext w2 w2 := Chg.refl _
  refine sl_v rfl (r_as rfl) ?_
  refine sl_nil ?_
  refine cw_seq ?_
  refine cw_seq ?_
  refine cw_region ?_
  refine sl_v rfl (r_as rfl) ?_
  refine sl_nil ?_
  refine cw_block ?_
  obtain ⟨I8, μ9, hI10, h⟩ := h
  refine cw_loop (σ := Sl × Int) (fun s g => (upd (upd (upd (upd g 0 (a0.v)) 5 (s.1.v)) 6 (r5.v)) 7 (.int .i64 s.2))) (fun s w => I8 s.1 s.2 w) (fun s w => μ9 s.1 s.2 w) ((⟨none, 0, 0⟩ : Sl), 0) _ (kp (kp (kp (kp rfl rfl) rfl) rfl) rfl) hI10 ?_
  rintro ⟨l6, l7⟩ g12 w11 hi13
  replace h := h l6 l7 w11 hi13
  have hx : Ext w11 w11 := Chg.refl _
  change CW PP _ _ _ (upd (upd (upd (upd g12 0 (a0.v)) 5 (l6.v)) 6 (r5.v)) 7 (.int .i64 l7)) _
  refine cw_seq ?_
  refine cw_seq ?_
  refine cw_region ?_
  refine sl_v rfl (r_mv rfl) ?_
  refine sl_v rfl (r_mv rfl) ?_
  refine sl_v rfl (r_len_l (s := r5) rfl rfl Try.underlying37) ?_
  refine sl_v rfl (r_lss rfl rfl) ?_
  refine sl_nil ?_
  refine bcases (decide (l7 < ((r5.n : Nat) : Int))) (fun hb14 => ?_) (fun hb14 => ?_)
  · replace h := h.1 (of_decide_eq_true hb14)
    refine cw_ct rfl hb14 ?_
    refine cw_skip ?_
    refine cw_seq ?_
    refine cw_block ?_
    refine cw_region ?_
    refine sl_v rfl (r_mv rfl) ?_
    refine sl_v rfl (r_mv rfl) ?_
    refine sl_v rfl (r_mv rfl) ?_
    refine sl_v rfl (r_mv rfl) ?_
    obtain ⟨k15, rfl, hk16, h⟩ := h
    obtain ⟨b17, o18, hb19, h⟩ := h
    refine sl_v rfl (ia_sl_string (s := r5) (j := k15) (o' := o18 + k15 * 1) rfl rfl hk16 hb19 rfl) ?_
    obtain ⟨v20, hc21, h⟩ := h
    refine sl_v rfl (ld_string rfl hc21) ?_
    refine sl_op rfl (ok_call c_ref20_Symbol rfl (Calls.mono h (fun e22 w23 hq24 => ?_)))
    clear h
    obtain ⟨r26, he25, h⟩ := hq24
    refine ⟨_, he25, ?_⟩
    replace hx : Ext w23 w23 := Chg.refl _
    refine sl_op rfl (bs_sl_int (len := 1) (vs := [(0, .int .i64 r26)]) (cs := #[.int .i64 r26]) (by decide) rfl rfl (fun b27 w28 hN29 => ?_))
    have hB30 := hN29.here
    replace hx := hx.tr hN29.ext
    obtain ⟨xs35, ho36, hb37, h⟩ := h
    refine sl_op rfl (ap_sl_int (s := l6) (xs := xs35) (m := 1) (news := [.int .i64 r26]) rfl rfl hx ho36 (.c (cell_blk hB30 rfl) .n) rfl rfl hb37 (fun s32 w31 ha33 hc34 => ?_))
    replace h := h s32 w31 ha33
    replace hx : Ext w31 w31 := Chg.refl _
    refine sl_v rfl (r_as rfl) ?_
    refine sl_nil ?_
    refine cw_region ?_
    refine sl_v rfl (r_mv rfl) ?_
    obtain ⟨z38, hz38, h⟩ := h
    refine sl_v rfl (r_add rfl rfl hz38) ?_
    refine sl_v rfl (r_as rfl) ?_
    refine sl_nil ?_
    exact ⟨(s32, z38), _, (kp (kp (kp (kp rfl rfl) rfl) rfl) rfl), h.1, h.2⟩
  · replace h := h.2 (of_decide_eq_false hb14)
    refine cw_cf rfl hb14 ?_
    refine cw_exit ?_
    refine cw_seq ?_
    refine cw_region ?_
    refine sl_v rfl (r_mv rfl) ?_
    refine sl_v rfl (r_as rfl) ?_
    refine sl_nil ?_
    refine cw_ret ?_
    exact rs_1 (rt rfl) ⟨l6, rfl, h⟩

def VC_apply_Coder_Size (a0 : Option Addr) (R : Int → World → Prop) (w : World) : Prop :=
  (a0 = none → (R 0 w)) ∧ (¬ (a0 = none) → (∃ (b2 o3 : Nat), a0 = some ⟨b2, o3, none⟩ ∧ (∃ v4 : Option Addr, w.cell? ⟨b2, o3, none⟩ = some (.pointer v4) ∧ (Calls PP n_sym_Table_Len #[.pointer v4] w (fun e w7 => ∃ r10 : Int, e = .returned (.int .i64 r10) ∧ (R r10 w7))))))
set_option maxRecDepth 100000 in
theorem vc_apply_Coder_Size {a0 : Option Addr} {R : Int → World → Prop} {w : World} (h : VC_apply_Coder_Size a0 R w) : Calls PP n_apply_Coder_Size #[.pointer a0] w fun e w' => ∃ r0 : Int, e = .returned (.int .i64 r0) ∧ R r0 w' := by
  refine Calls.mono (calls_of_cw (n := 10) (rs := #[.tmp 2]) (args := [.pointer a0]) (R := fun v w' => ∃ r0 : Int, v = .int .i64 r0 ∧ R r0 w') Try.func47 rfl rfl (Nat.le_of_ble_eq_true rfl) rfl ?_) ?_
  case refine_2 => rintro e w' ⟨v, rfl, hr⟩; obtain ⟨r0, rfl, hr⟩ := hr; exact ⟨r0, rfl, hr⟩
  have hx : Ext w w := Chg.refl _
  unfold VC_apply_Coder_Size at h
  refine cw_seq ?_
  refine cw_region ?_
  refine sl_v rfl (r_as rfl) ?_
  refine sl_nil ?_
  refine cw_seq ?_
  refine cw_seq ?_
  refine cw_region ?_
  refine sl_v rfl (r_mv rfl) ?_
  refine sl_v rfl (p_eqn rfl rfl Try.underlying61) ?_
  refine sl_nil ?_
  refine bcases (decide (a0 = none)) (fun hb1 => ?_) (fun hb1 => ?_)
  · replace h := h.1 (of_decide_eq_true hb1)
    refine cw_ct rfl hb1 ?_
    refine cw_seq ?_
    refine cw_region ?_
    refine sl_v rfl (r_as rfl) ?_
    refine sl_nil ?_
    refine cw_ret ?_
    exact rs_1 (rt rfl) ⟨0, rfl, h⟩
  · replace h := h.2 (of_decide_eq_false hb1)
    refine cw_cf rfl hb1 ?_
    refine cw_skip ?_
    refine cw_seq ?_
    refine cw_region ?_
    refine sl_v rfl (r_mv rfl) ?_
    obtain ⟨b2, o3, rfl, h⟩ := h
    refine sl_v rfl (r_nc rfl) ?_
    refine sl_v rfl (fa_apply_Coder_0 (o' := o3) rfl rfl) ?_
    obtain ⟨v4, hc5, h⟩ := h
    refine sl_v rfl (ld_p_sym_Table rfl hc5) ?_
    refine sl_op rfl (ok_call c_sym_Table_Len rfl (Calls.mono h (fun e6 w7 hq8 => ?_)))
    clear h
    obtain ⟨r10, he9, h⟩ := hq8
    refine ⟨_, he9, ?_⟩
    replace hx : Ext w7 w7 := Chg.refl _
    refine sl_v rfl (r_as rfl) ?_
    refine sl_nil ?_
    refine cw_ret ?_
    exact rs_1 (rt rfl) ⟨r10, rfl, h⟩

def VC_file_Check (a0 : Sl) (R : Int → Int → World → Prop) (w : World) : Prop :=
  Calls PP n_sym_New #[] w (fun e w2 => ∃ r5 : Option Addr, e = .returned (.pointer r5) ∧ (∃ (I7 : Int → World → Prop) (μ8 : Int → World → Nat), I7 0 w2 ∧ ∀ (l6 : Int) (w10 : World), I7 l6 w10 → ((l6 < ((a0.n : Nat) : Int) → (∃ k14 : Nat, l6 = ((k14 : Nat) : Int) ∧ k14 < a0.n ∧ (∃ (b16 o17 : Nat), a0.b = some ⟨b16, o17, none⟩ ∧ (∃ v19_0 : ByteArray, ∃ v19_1 : ByteArray, Cells w10 b16 (o17 + k14 * 2) [.string v19_0, .string v19_1] ∧ (∀ (b21 : Nat) (w22 : World), Priv w10 b21 w22 → (∀ w25 : World, Chg (fun b => b = b21) w22 w25 → (Calls PP n_file_join #[.pointer r5, .agg #[.string v19_0, .string v19_1]] w25 (fun e w28 => ∃ r31 : Int, e = .returned (.int .i64 r31) ∧ w28.heap[b21]? = w25.heap[b21]? ∧ ((r31 ≠ (0 : Int) → (R ((k14 : Nat) : Int) r31 w28)) ∧ (¬ (r31 ≠ (0 : Int)) → (∃ z34 : Int, z34 = IntKind.wrap .i64 (((k14 : Nat) : Int) + 1) ∧ (I7 z34 w28 ∧ μ8 z34 w28 < μ8 l6 w10)))))))))))) ∧ (¬ (l6 < ((a0.n : Nat) : Int)) → (R (-1) 0 w10)))))
set_option maxRecDepth 100000 in
theorem vc_file_Check {a0 : Sl} {R : Int → Int → World → Prop} {w : World} (h : VC_file_Check a0 R w) : Calls PP n_file_Check #[a0.v] w fun e w' => ∃ r0 : Int, ∃ r1 : Int, e = .returned (.tuple #[.int .i64 r0, .int .i64 r1]) ∧ R r0 r1 w' := by
  refine Calls.mono (calls_of_cw (n := 24) (rs := #[.tmp 2, .tmp 3]) (args := [a0.v]) (R := fun v w' => ∃ r0 : Int, ∃ r1 : Int, v = .tuple #[.int .i64 r0, .int .i64 r1] ∧ R r0 r1 w') Try.func48 rfl rfl (Nat.le_of_ble_eq_true rfl) rfl ?_) ?_
  case refine_2 => rintro e w' ⟨v, rfl, hr⟩; obtain ⟨r0, r1, rfl, hr⟩ := hr; exact ⟨r0, r1, rfl, hr⟩
  have hx : Ext w w := Chg.refl _
  unfold VC_file_Check at h
  refine cw_seq ?_
  refine cw_region ?_
  refine sl_v rfl (r_as rfl) ?_
  refine sl_v rfl (r_as rfl) ?_
  refine sl_nil ?_
  refine cw_seq ?_
  refine cw_region ?_
  refine sl_op rfl (ok_call c_sym_New rfl (Calls.mono h (fun e1 w2 hq3 => ?_)))
  clear h
  obtain ⟨r5, he4, h⟩ := hq3
  refine ⟨_, he4, ?_⟩
  replace hx : Ext w2 w2 := Chg.refl _
  refine sl_v rfl (r_as rfl) ?_
  refine sl_nil ?_
  refine cw_seq ?_
  refine cw_seq ?_
  refine cw_region ?_
  refine sl_v rfl (r_mv rfl) ?_
  refine sl_v rfl (r_len_l (s := a0) rfl rfl Try.underlying22) ?_
  refine sl_v rfl (r_mv rfl) ?_
  refine sl_nil ?_
  refine cw_block ?_
  obtain ⟨I7, μ8, hI9, h⟩ := h
  refine cw_loop (σ := Int) (fun s g => (upd (upd (upd (upd g 4 (.pointer r5)) 9 (a0.v)) 10 (.int .i64 ((a0.n : Nat) : Int))) 11 (.int .i64 s))) (fun s w => I7 s w) (fun s w => μ8 s w) (0) _ (kp (kp (kp (kp rfl rfl) rfl) rfl) rfl) hI9 ?_
  rintro l6 g11 w10 hi12
  replace h := h l6 w10 hi12
  have hx : Ext w10 w10 := Chg.refl _
  change CW PP _ _ _ (upd (upd (upd (upd g11 4 (.pointer r5)) 9 (a0.v)) 10 (.int .i64 ((a0.n : Nat) : Int))) 11 (.int .i64 l6)) _
  refine cw_seq ?_
  refine cw_region ?_
  refine sl_v rfl (r_lss rfl rfl) ?_
  refine sl_nil ?_
  refine cw_seq ?_
  refine bcases (decide (l6 < ((a0.n : Nat) : Int))) (fun hb13 => ?_) (fun hb13 => ?_)
  · replace h := h.1 (of_decide_eq_true hb13)
    refine cw_ct rfl hb13 ?_
    refine cw_skip ?_
    refine cw_seq ?_
    refine cw_block ?_
    refine cw_seq ?_
    refine cw_region ?_
    refine sl_v rfl (r_mv rfl) ?_
    obtain ⟨k14, rfl, hk15, h⟩ := h
    obtain ⟨b16, o17, hb18, h⟩ := h
    refine sl_v rfl (ia_sl_api_Merge (s := a0) (j := k14) (o' := o17 + k14 * 2) rfl rfl hk15 hb18 rfl) ?_
    obtain ⟨v19_0, v19_1, hc20, h⟩ := h
    refine sl_v rfl (lda_api_Merge rfl rfl hc20) ?_
    refine sl_op rfl (al_api_Merge rfl (fun b21 w22 hN23 => ?_))
    have hB24 := hN23.here
    replace h := h b21 w22 ⟨hx.tr hN23.ext, Nat.le_trans hx.size hN23.fresh, lt_of_blk hN23.here⟩
    replace hx : Ext w22 w22 := Chg.refl _
    refine sl_v rfl (r_as rfl) ?_
    refine sl_op rfl (st_api_Merge (vs := [.string v19_0, .string v19_1]) rfl rfl rfl rfl rfl ⟨_, _, hB24, Nat.le_of_ble_eq_true rfl⟩ (fun w25 hw26 => ?_))
    have hc_ := sto_chg hw26
    replace hB24 : w25.heap[b21]? = some (.cells #[.string v19_0, .string v19_1] t_api_Merge (0, 0)) := sto_blk hw26 hB24
    replace h := h w25 (Chg.pre hx hc_)
    replace hx : Ext w25 w25 := Chg.refl _
    clear hc_
    refine sl_nil ?_
    refine cw_seq ?_
    refine cw_region ?_
    refine sl_v rfl (r_mv rfl) ?_
    refine sl_v rfl (lda_api_Merge (vs := [.string v19_0, .string v19_1]) rfl rfl (.c (cell_blk hB24 rfl) (.c (cell_blk hB24 rfl) .n))) ?_
    refine sl_op rfl (ok_call c_file_join rfl (Calls.mono h (fun e27 w28 hq29 => ?_)))
    clear h
    obtain ⟨r31, he30, hk32, h⟩ := hq29
    refine ⟨_, he30, ?_⟩
    replace hB24 := hk32.trans hB24
    replace hx : Ext w28 w28 := Chg.refl _
    refine sl_v rfl (r_as rfl) ?_
    refine sl_nil ?_
    refine cw_seq ?_
    refine cw_region ?_
    refine sl_v rfl (r_mv rfl) ?_
    refine sl_v rfl (r_neq rfl rfl) ?_
    refine sl_nil ?_
    refine bcases (decide (r31 ≠ (0 : Int))) (fun hb33 => ?_) (fun hb33 => ?_)
    · replace h := h.1 (of_decide_eq_true hb33)
      refine cw_ct rfl hb33 ?_
      refine cw_seq ?_
      refine cw_region ?_
      refine sl_v rfl (r_mv rfl) ?_
      refine sl_v rfl (r_mv rfl) ?_
      refine sl_v rfl (r_as rfl) ?_
      refine sl_v rfl (r_as rfl) ?_
      refine sl_nil ?_
      refine cw_ret ?_
      exact rs_2 (rt rfl) (rt rfl) ⟨((k14 : Nat) : Int), r31, rfl, h⟩
    · replace h := h.2 (of_decide_eq_false hb33)
      refine cw_cf rfl hb33 ?_
      refine cw_skip ?_
      refine cw_region ?_
      obtain ⟨z34, hz34, h⟩ := h
      refine sl_v rfl (r_add rfl rfl hz34) ?_
      refine sl_v rfl (r_mv rfl) ?_
      refine sl_nil ?_
      exact ⟨(z34), _, (kp (kp (kp (kp rfl rfl) rfl) rfl) rfl), h.1, h.2⟩
  · replace h := h.2 (of_decide_eq_false hb13)
    refine cw_cf rfl hb13 ?_
    refine cw_exit ?_
    refine cw_seq ?_
    refine cw_region ?_
    refine sl_v rfl (r_as rfl) ?_
    refine sl_v rfl (r_as rfl) ?_
    refine sl_nil ?_
    refine cw_ret ?_
    exact rs_2 (rt rfl) (rt rfl) ⟨(-1), 0, rfl, h⟩

def VC_ref18_side (a0 : ByteArray) (a1 : Sl) (R : Bool → World → Prop) (w : World) : Prop :=
  (((a0.size : Nat) : Int) = (1 : Int) → (R true w)) ∧ (¬ (((a0.size : Nat) : Int) = (1 : Int)) → (∃ (I3 : Int → World → Prop) (μ4 : Int → World → Nat), I3 0 w ∧ ∀ (l2 : Int) (w6 : World), I3 l2 w6 → ((l2 < ((a1.n : Nat) : Int) → (∃ k12 : Nat, l2 = ((k12 : Nat) : Int) ∧ k12 < a1.n ∧ (∃ (b14 o15 : Nat), a1.b = some ⟨b14, o15, none⟩ ∧ (∃ v17 : ByteArray, w6.cell? ⟨b14, o15 + k12 * 2, none⟩ = some (.string v17) ∧ (∃ v19 : ByteArray, w6.cell? ⟨b14, o15 + k12 * 2 + 1, none⟩ = some (.string v19) ∧ (v17.size + v19.size ≤ 9223372036854775807 ∧ (((v17 ++ v19) = a0 → (∀ w10 : World, Ext w6 w10 → (R true w10))) ∧ (¬ ((v17 ++ v19) = a0) → (∃ z24 : Int, z24 = IntKind.wrap .i64 (((k12 : Nat) : Int) + 1) ∧ (∀ w10 : World, Ext w6 w10 → (I3 z24 w10 ∧ μ4 z24 w10 < μ4 l2 w6))))))))))) ∧ (¬ (l2 < ((a1.n : Nat) : Int)) → (R false w6)))))
set_option maxRecDepth 100000 in
theorem vc_ref18_side {a0 : ByteArray} {a1 : Sl} {R : Bool → World → Prop} {w : World} (h : VC_ref18_side a0 a1 R w) : Calls PP n_ref18_side #[.string a0, a1.v] w fun e w' => ∃ r0 : Bool, e = .returned (.bool r0) ∧ R r0 w' := by
  refine Calls.mono (calls_of_cw (n := 28) (rs := #[.tmp 4]) (args := [.string a0, a1.v]) (R := fun v w' => ∃ r0 : Bool, v = .bool r0 ∧ R r0 w') Try.func49 rfl rfl (Nat.le_of_ble_eq_true rfl) rfl ?_) ?_
  case refine_2 => rintro e w' ⟨v, rfl, hr⟩; obtain ⟨r0, rfl, hr⟩ := hr; exact ⟨r0, rfl, hr⟩
  have hx : Ext w w := Chg.refl _
  unfold VC_ref18_side at h
  refine cw_seq ?_
  refine cw_region ?_
  refine sl_v rfl (r_as rfl) ?_
  refine sl_nil ?_
  refine cw_seq ?_
  refine cw_seq ?_
  refine cw_region ?_
  refine sl_v rfl (r_mv rfl) ?_
  refine sl_v rfl (r_len_s rfl rfl Try.underlying9) ?_
  refine sl_v rfl (r_eql rfl rfl) ?_
  refine sl_nil ?_
  refine bcases (decide (((a0.size : Nat) : Int) = (1 : Int))) (fun hb1 => ?_) (fun hb1 => ?_)
  · replace h := h.1 (of_decide_eq_true hb1)
    refine cw_ct rfl hb1 ?_
    refine cw_seq ?_
    refine cw_region ?_
    refine sl_v rfl (r_as rfl) ?_
    refine sl_nil ?_
    refine cw_ret ?_
    exact rs_1 (rt rfl) ⟨true, rfl, h⟩
  · replace h := h.2 (of_decide_eq_false hb1)
    refine cw_cf rfl hb1 ?_
    refine cw_skip ?_
    refine cw_seq ?_
    refine cw_seq ?_
    refine cw_region ?_
    refine sl_v rfl (r_as rfl) ?_
    refine sl_nil ?_
    refine cw_block ?_
    obtain ⟨I3, μ4, hI5, h⟩ := h
    refine cw_loop (σ := Int) (fun s g => (upd (upd (upd g 0 (.string a0)) 1 (a1.v)) 5 (.int .i64 s))) (fun s w => I3 s w) (fun s w => μ4 s w) (0) _ (kp (kp (kp rfl rfl) rfl) rfl) hI5 ?_
    rintro l2 g7 w6 hi8
    replace h := h l2 w6 hi8
    have hx : Ext w6 w6 := Chg.refl _
    change CW PP _ _ _ (upd (upd (upd g7 0 (.string a0)) 1 (a1.v)) 5 (.int .i64 l2)) _
    refine cw_seq ?_
    refine cw_seq ?_
    refine cw_region ?_
    refine sl_v rfl (r_mv rfl) ?_
    refine sl_v rfl (r_mv rfl) ?_
    refine sl_v rfl (r_len_l (s := a1) rfl rfl Try.underlying22) ?_
    refine sl_v rfl (r_lss rfl rfl) ?_
    refine sl_nil ?_
    refine bcases (decide (l2 < ((a1.n : Nat) : Int))) (fun hb9 => ?_) (fun hb9 => ?_)
    · replace h := h.1 (of_decide_eq_true hb9)
      refine cw_ct rfl hb9 ?_
      refine cw_skip ?_
      refine cw_seq ?_
      refine cw_block ?_
      refine cw_seq ?_
      refine cw_still mo (by kernel_rfl) (fun w10 hd11 => ?_)
      replace hx := hx.tr (Ext.of_drew hd11)
      refine st_v rfl (r_mv rfl) ?_
      refine st_v rfl (r_mv rfl) ?_
      obtain ⟨k12, rfl, hk13, h⟩ := h
      obtain ⟨b14, o15, hb16, h⟩ := h
      refine st_v rfl (ia_sl_api_Merge (s := a1) (j := k12) (o' := o15 + k12 * 2) rfl rfl hk13 hb16 rfl) ?_
      refine st_v rfl (fa_api_Merge_0 (o' := o15 + k12 * 2) rfl rfl) ?_
      obtain ⟨v17, hc18, h⟩ := h
      refine st_v rfl (ld_string rfl (hx.cell hc18)) ?_
      refine st_v rfl (r_mv rfl) ?_
      refine st_v rfl (r_mv rfl) ?_
      refine st_v rfl (ia_sl_api_Merge (s := a1) (j := k12) (o' := o15 + k12 * 2) rfl rfl hk13 hb16 rfl) ?_
      refine st_v rfl (fa_api_Merge_1 (o' := o15 + k12 * 2 + 1) rfl rfl) ?_
      obtain ⟨v19, hc20, h⟩ := h
      refine st_v rfl (ld_string rfl (hx.cell hc20)) ?_
      obtain ⟨hs21, h⟩ := h
      refine st_v rfl (s_cat rfl rfl hs21) ?_
      refine st_v rfl (r_mv rfl) ?_
      refine st_v rfl (s_eql rfl rfl) ?_
      refine st_nil ?_
      refine bcases (decide ((v17 ++ v19) = a0)) (fun hb22 => ?_) (fun hb22 => ?_)
      · replace h := h.1 (of_decide_eq_true hb22)
        refine cw_ct rfl hb22 ?_
        refine cw_seq ?_
        refine cw_region ?_
        refine sl_v rfl (r_as rfl) ?_
        refine sl_nil ?_
        refine cw_ret ?_
        replace h := h _ hx
        replace hx : Ext w10 w10 := Chg.refl _
        exact rs_1 (rt rfl) ⟨true, rfl, h⟩
      · replace h := h.2 (of_decide_eq_false hb22)
        refine cw_cf rfl hb22 ?_
        refine cw_skip ?_
        refine cw_region ?_
        refine sl_v rfl (r_mv rfl) ?_
        obtain ⟨z24, hz24, h⟩ := h
        refine sl_v rfl (r_add rfl rfl hz24) ?_
        refine sl_v rfl (r_as rfl) ?_
        refine sl_nil ?_
        replace h := h _ hx
        replace hx : Ext w10 w10 := Chg.refl _
        exact ⟨(z24), _, (kp (kp (kp rfl rfl) rfl) rfl), h.1, h.2⟩
    · replace h := h.2 (of_decide_eq_false hb9)
      refine cw_cf rfl hb9 ?_
      refine cw_exit ?_
      refine cw_seq ?_
      refine cw_region ?_
      refine sl_v rfl (r_as rfl) ?_
      refine sl_nil ?_
      refine cw_ret ?_
      exact rs_1 (rt rfl) ⟨false, rfl, h⟩

def VC_ref21_made (a0 : Sl) (a1 : ByteArray) (R : Int → World → Prop) (w : World) : Prop :=
  ∃ (I2 : Int → World → Prop) (μ3 : Int → World → Nat), I2 0 w ∧ ∀ (l1 : Int) (w5 : World), I2 l1 w5 → ((l1 < ((a0.n : Nat) : Int) → (∃ k11 : Nat, l1 = ((k11 : Nat) : Int) ∧ k11 < a0.n ∧ (∃ (b13 o14 : Nat), a0.b = some ⟨b13, o14, none⟩ ∧ (∃ v16 : ByteArray, w5.cell? ⟨b13, o14 + k11 * 2, none⟩ = some (.string v16) ∧ (∃ v18 : ByteArray, w5.cell? ⟨b13, o14 + k11 * 2 + 1, none⟩ = some (.string v18) ∧ (v16.size + v18.size ≤ 9223372036854775807 ∧ (((v16 ++ v18) = a1 → (∀ w9 : World, Ext w5 w9 → (R ((k11 : Nat) : Int) w9))) ∧ (¬ ((v16 ++ v18) = a1) → (∃ z23 : Int, z23 = IntKind.wrap .i64 (((k11 : Nat) : Int) + 1) ∧ (∀ w9 : World, Ext w5 w9 → (I2 z23 w9 ∧ μ3 z23 w9 < μ3 l1 w5))))))))))) ∧ (¬ (l1 < ((a0.n : Nat) : Int)) → (R (-1) w5)))
set_option maxRecDepth 100000 in
theorem vc_ref21_made {a0 : Sl} {a1 : ByteArray} {R : Int → World → Prop} {w : World} (h : VC_ref21_made a0 a1 R w) : Calls PP n_ref21_made #[a0.v, .string a1] w fun e w' => ∃ r0 : Int, e = .returned (.int .i64 r0) ∧ R r0 w' := by
  refine Calls.mono (calls_of_cw (n := 26) (rs := #[.tmp 4]) (args := [a0.v, .string a1]) (R := fun v w' => ∃ r0 : Int, v = .int .i64 r0 ∧ R r0 w') Try.func50 rfl rfl (Nat.le_of_ble_eq_true rfl) rfl ?_) ?_
  case refine_2 => rintro e w' ⟨v, rfl, hr⟩; obtain ⟨r0, rfl, hr⟩ := hr; exact ⟨r0, rfl, hr⟩
  have hx : Ext w w := Chg.refl _
  unfold VC_ref21_made at h
  refine cw_seq ?_
  refine cw_region ?_
  refine sl_v rfl (r_as rfl) ?_
  refine sl_nil ?_
  refine cw_seq ?_
  refine cw_seq ?_
  refine cw_region ?_
  refine sl_v rfl (r_as rfl) ?_
  refine sl_nil ?_
  refine cw_block ?_
  obtain ⟨I2, μ3, hI4, h⟩ := h
  refine cw_loop (σ := Int) (fun s g => (upd (upd (upd g 0 (a0.v)) 1 (.string a1)) 5 (.int .i64 s))) (fun s w => I2 s w) (fun s w => μ3 s w) (0) _ (kp (kp (kp rfl rfl) rfl) rfl) hI4 ?_
  rintro l1 g6 w5 hi7
  replace h := h l1 w5 hi7
  have hx : Ext w5 w5 := Chg.refl _
  change CW PP _ _ _ (upd (upd (upd g6 0 (a0.v)) 1 (.string a1)) 5 (.int .i64 l1)) _
  refine cw_seq ?_
  refine cw_seq ?_
  refine cw_region ?_
  refine sl_v rfl (r_mv rfl) ?_
  refine sl_v rfl (r_mv rfl) ?_
  refine sl_v rfl (r_len_l (s := a0) rfl rfl Try.underlying22) ?_
  refine sl_v rfl (r_lss rfl rfl) ?_
  refine sl_nil ?_
  refine bcases (decide (l1 < ((a0.n : Nat) : Int))) (fun hb8 => ?_) (fun hb8 => ?_)
  · replace h := h.1 (of_decide_eq_true hb8)
    refine cw_ct rfl hb8 ?_
    refine cw_skip ?_
    refine cw_seq ?_
    refine cw_block ?_
    refine cw_seq ?_
    refine cw_still mo (by kernel_rfl) (fun w9 hd10 => ?_)
    replace hx := hx.tr (Ext.of_drew hd10)
    refine st_v rfl (r_mv rfl) ?_
    refine st_v rfl (r_mv rfl) ?_
    obtain ⟨k11, rfl, hk12, h⟩ := h
    obtain ⟨b13, o14, hb15, h⟩ := h
    refine st_v rfl (ia_sl_api_Merge (s := a0) (j := k11) (o' := o14 + k11 * 2) rfl rfl hk12 hb15 rfl) ?_
    refine st_v rfl (fa_api_Merge_0 (o' := o14 + k11 * 2) rfl rfl) ?_
    obtain ⟨v16, hc17, h⟩ := h
    refine st_v rfl (ld_string rfl (hx.cell hc17)) ?_
    refine st_v rfl (r_mv rfl) ?_
    refine st_v rfl (r_mv rfl) ?_
    refine st_v rfl (ia_sl_api_Merge (s := a0) (j := k11) (o' := o14 + k11 * 2) rfl rfl hk12 hb15 rfl) ?_
    refine st_v rfl (fa_api_Merge_1 (o' := o14 + k11 * 2 + 1) rfl rfl) ?_
    obtain ⟨v18, hc19, h⟩ := h
    refine st_v rfl (ld_string rfl (hx.cell hc19)) ?_
    obtain ⟨hs20, h⟩ := h
    refine st_v rfl (s_cat rfl rfl hs20) ?_
    refine st_v rfl (r_mv rfl) ?_
    refine st_v rfl (s_eql rfl rfl) ?_
    refine st_nil ?_
    refine bcases (decide ((v16 ++ v18) = a1)) (fun hb21 => ?_) (fun hb21 => ?_)
    · replace h := h.1 (of_decide_eq_true hb21)
      refine cw_ct rfl hb21 ?_
      refine cw_seq ?_
      refine cw_region ?_
      refine sl_v rfl (r_mv rfl) ?_
      refine sl_v rfl (r_as rfl) ?_
      refine sl_nil ?_
      refine cw_ret ?_
      replace h := h _ hx
      replace hx : Ext w9 w9 := Chg.refl _
      exact rs_1 (rt rfl) ⟨((k11 : Nat) : Int), rfl, h⟩
    · replace h := h.2 (of_decide_eq_false hb21)
      refine cw_cf rfl hb21 ?_
      refine cw_skip ?_
      refine cw_region ?_
      refine sl_v rfl (r_mv rfl) ?_
      obtain ⟨z23, hz23, h⟩ := h
      refine sl_v rfl (r_add rfl rfl hz23) ?_
      refine sl_v rfl (r_as rfl) ?_
      refine sl_nil ?_
      replace h := h _ hx
      replace hx : Ext w9 w9 := Chg.refl _
      exact ⟨(z23), _, (kp (kp (kp rfl rfl) rfl) rfl), h.1, h.2⟩
  · replace h := h.2 (of_decide_eq_false hb8)
    refine cw_cf rfl hb8 ?_
    refine cw_exit ?_
    refine cw_seq ?_
    refine cw_region ?_
    refine sl_v rfl (r_as rfl) ?_
    refine sl_nil ?_
    refine cw_ret ?_
    exact rs_1 (rt rfl) ⟨(-1), rfl, h⟩

def VC_ref01_Less (a0 : ByteArray) (a1 : ByteArray) (R : Bool → World → Prop) (w : World) : Prop :=
  ∃ K1 : World → Prop, (∀ (w3 : World), K1 w3 → (R (decide (((a0.size : Nat) : Int) < ((a1.size : Nat) : Int))) w3)) ∧ (∃ (I7 : Int → World → Prop) (μ8 : Int → World → Nat), I7 0 w ∧ ∀ (l6 : Int) (w10 : World), I7 l6 w10 → ((l6 < ((a0.size : Nat) : Int) → ((l6 < ((a1.size : Nat) : Int) → (∃ k17 : Nat, l6 = ((k17 : Nat) : Int) ∧ k17 < a0.size ∧ (k17 < a1.size ∧ (((((a0.data.toList.getD k17 0).toNat : Nat) : Int) ≠ (((a1.data.toList.getD k17 0).toNat : Nat) : Int) → (∀ w21 : World, Ext w10 w21 → (R (decide ((((a0.data.toList.getD k17 0).toNat : Nat) : Int) < (((a1.data.toList.getD k17 0).toNat : Nat) : Int))) w21))) ∧ (¬ ((((a0.data.toList.getD k17 0).toNat : Nat) : Int) ≠ (((a1.data.toList.getD k17 0).toNat : Nat) : Int)) → (∃ z24 : Int, z24 = IntKind.wrap .i64 (((k17 : Nat) : Int) + 1) ∧ (∀ w15 : World, Ext w10 w15 → (I7 z24 w15 ∧ μ8 z24 w15 < μ8 l6 w10)))))))) ∧ (¬ (l6 < ((a1.size : Nat) : Int)) → (K1 w10)))) ∧ (¬ (l6 < ((a0.size : Nat) : Int)) → (K1 w10))))
set_option maxRecDepth 100000 in
theorem vc_ref01_Less {a0 : ByteArray} {a1 : ByteArray} {R : Bool → World → Prop} {w : World} (h : VC_ref01_Less a0 a1 R w) : Calls PP n_ref01_Less #[.string a0, .string a1] w fun e w' => ∃ r0 : Bool, e = .returned (.bool r0) ∧ R r0 w' := by
  refine Calls.mono (calls_of_cw (n := 37) (rs := #[.tmp 4]) (args := [.string a0, .string a1]) (R := fun v w' => ∃ r0 : Bool, v = .bool r0 ∧ R r0 w') Try.func51 rfl rfl (Nat.le_of_ble_eq_true rfl) rfl ?_) ?_
  case refine_2 => rintro e w' ⟨v, rfl, hr⟩; obtain ⟨r0, rfl, hr⟩ := hr; exact ⟨r0, rfl, hr⟩
  have hx : Ext w w := Chg.refl _
  unfold VC_ref01_Less at h
  refine cw_seq ?_
  refine cw_region ?_
  refine sl_v rfl (r_as rfl) ?_
  refine sl_nil ?_
  obtain ⟨K1, hK2, h⟩ := h
  refine cw_mid (fun f w => ∃ (g : Env), f = (upd (upd g 0 (.string a0)) 1 (.string a1)) ∧ K1 w) ?_ (fun _ w3 hM5 => ?_)
  ·
    refine cw_seq ?_
    refine cw_region ?_
    refine sl_v rfl (r_as rfl) ?_
    refine sl_nil ?_
    refine cw_block ?_
    obtain ⟨I7, μ8, hI9, h⟩ := h
    refine cw_loop (σ := Int) (fun s g => (upd (upd (upd g 0 (.string a0)) 1 (.string a1)) 5 (.int .i64 s))) (fun s w => I7 s w) (fun s w => μ8 s w) (0) _ (kp (kp (kp rfl rfl) rfl) rfl) hI9 ?_
    rintro l6 g11 w10 hi12
    replace h := h l6 w10 hi12
    have hx : Ext w10 w10 := Chg.refl _
    change CW PP _ _ _ (upd (upd (upd g11 0 (.string a0)) 1 (.string a1)) 5 (.int .i64 l6)) _
    refine cw_seq ?_
    refine cw_seq ?_
    refine cw_region ?_
    refine sl_v rfl (r_mv rfl) ?_
    refine sl_v rfl (r_mv rfl) ?_
    refine sl_v rfl (r_len_s rfl rfl Try.underlying9) ?_
    refine sl_v rfl (r_lss rfl rfl) ?_
    refine sl_v rfl (r_mv rfl) ?_
    refine bcases (decide (l6 < ((a0.size : Nat) : Int))) (fun hb13 => ?_) (fun hb13 => ?_)
    · replace h := h.1 (of_decide_eq_true hb13)
      refine sl_vg rfl rfl rfl hb13 (r_mv rfl) ?_
      refine sl_vg rfl rfl rfl hb13 (r_mv rfl) ?_
      refine sl_vg rfl rfl rfl hb13 (r_len_s rfl rfl Try.underlying9) ?_
      refine sl_vg rfl rfl rfl hb13 (r_lss rfl rfl) ?_
      refine sl_v rfl (r_pt rfl hb13 rfl) ?_
      refine sl_nil ?_
      refine bcases (decide (l6 < ((a1.size : Nat) : Int))) (fun hb14 => ?_) (fun hb14 => ?_)
      · replace h := h.1 (of_decide_eq_true hb14)
        refine cw_ct rfl hb14 ?_
        refine cw_skip ?_
        refine cw_seq ?_
        refine cw_block ?_
        refine cw_seq ?_
        refine cw_still mo (by kernel_rfl) (fun w15 hd16 => ?_)
        replace hx := hx.tr (Ext.of_drew hd16)
        refine st_v rfl (r_mv rfl) ?_
        refine st_v rfl (r_mv rfl) ?_
        obtain ⟨k17, rfl, hk18, h⟩ := h
        refine st_v rfl (r_ix (j := k17) rfl rfl Try.underlying9 hk18) ?_
        refine st_v rfl (r_mv rfl) ?_
        refine st_v rfl (r_mv rfl) ?_
        obtain ⟨hk19, h⟩ := h
        refine st_v rfl (r_ix (j := k17) rfl rfl Try.underlying9 hk19) ?_
        refine st_v rfl (r_neq rfl rfl) ?_
        refine st_nil ?_
        refine bcases (decide ((((a0.data.toList.getD k17 0).toNat : Nat) : Int) ≠ (((a1.data.toList.getD k17 0).toNat : Nat) : Int))) (fun hb20 => ?_) (fun hb20 => ?_)
        · replace h := h.1 (of_decide_eq_true hb20)
          refine cw_ct rfl hb20 ?_
          refine cw_seq ?_
          refine cw_still mo (by kernel_rfl) (fun w21 hd22 => ?_)
          replace hx := hx.tr (Ext.of_drew hd22)
          refine st_v rfl (r_mv rfl) ?_
          refine st_v rfl (r_mv rfl) ?_
          refine st_v rfl (r_ix (j := k17) rfl rfl Try.underlying9 hk18) ?_
          refine st_v rfl (r_mv rfl) ?_
          refine st_v rfl (r_mv rfl) ?_
          refine st_v rfl (r_ix (j := k17) rfl rfl Try.underlying9 hk19) ?_
          refine st_v rfl (r_lss rfl rfl) ?_
          refine st_v rfl (r_as rfl) ?_
          refine st_nil ?_
          refine cw_ret ?_
          replace h := h _ hx
          replace hx : Ext w21 w21 := Chg.refl _
          exact rs_1 (rt rfl) ⟨decide ((((a0.data.toList.getD k17 0).toNat : Nat) : Int) < (((a1.data.toList.getD k17 0).toNat : Nat) : Int)), rfl, h⟩
        · replace h := h.2 (of_decide_eq_false hb20)
          refine cw_cf rfl hb20 ?_
          refine cw_skip ?_
          refine cw_region ?_
          refine sl_v rfl (r_mv rfl) ?_
          obtain ⟨z24, hz24, h⟩ := h
          refine sl_v rfl (r_add rfl rfl hz24) ?_
          refine sl_v rfl (r_as rfl) ?_
          refine sl_nil ?_
          replace h := h _ hx
          replace hx : Ext w15 w15 := Chg.refl _
          exact ⟨(z24), _, (kp (kp (kp rfl rfl) rfl) rfl), h.1, h.2⟩
      · replace h := h.2 (of_decide_eq_false hb14)
        refine cw_cf rfl hb14 ?_
        refine cw_exit ?_
        exact ⟨_, (kp (kp rfl rfl) rfl), h⟩
    · replace h := h.2 (of_decide_eq_false hb13)
      refine sl_no rfl rfl rfl hb13 ?_
      refine sl_no rfl rfl rfl hb13 ?_
      refine sl_no rfl rfl rfl hb13 ?_
      refine sl_no rfl rfl rfl hb13 ?_
      refine sl_v rfl (r_pf rfl hb13 rfl) ?_
      refine sl_nil ?_
      refine cw_cf rfl rfl ?_
      refine cw_exit ?_
      exact ⟨_, (kp (kp rfl rfl) rfl), h⟩
  ·
    obtain ⟨g4, rfl, hM5⟩ := hM5
    replace h := hK2 w3 hM5
    have hx : Ext w3 w3 := Chg.refl _
    refine cw_seq ?_
    refine cw_region ?_
    refine sl_v rfl (r_mv rfl) ?_
    refine sl_v rfl (r_len_s rfl rfl Try.underlying9) ?_
    refine sl_v rfl (r_mv rfl) ?_
    refine sl_v rfl (r_len_s rfl rfl Try.underlying9) ?_
    refine sl_v rfl (r_lss rfl rfl) ?_
    refine sl_v rfl (r_as rfl) ?_
    refine sl_nil ?_
    refine cw_ret ?_
    exact rs_1 (rt rfl) ⟨decide (((a0.size : Nat) : Int) < ((a1.size : Nat) : Int)), rfl, h⟩

def VC_vocab_Vocab_Texts_c1 (a0 : Value) (R : World → Prop) (w : World) : Prop :=
  R w
set_option maxRecDepth 100000 in
theorem vc_vocab_Vocab_Texts_c1 {a0 : Value} {R : World → Prop} {w : World} (h : VC_vocab_Vocab_Texts_c1 a0 R w) : Calls PP n_vocab_Vocab_Texts_c1 #[a0] w fun e w' => e = .returned (.tuple #[]) ∧ R w' := by
  refine Calls.mono (calls_of_cw (n := 2) (rs := #[]) (args := [a0]) (R := fun v w' => v = .tuple #[] ∧ R w') Try.func52 rfl rfl (Nat.le_of_ble_eq_true rfl) rfl ?_) ?_
  case refine_2 => rintro e w' ⟨v, rfl, hr⟩; obtain ⟨rfl, hr⟩ := hr; exact ⟨rfl, hr⟩
  have hx : Ext w w := Chg.refl _
  unfold VC_vocab_Vocab_Texts_c1 at h
  refine cw_skip ?_
  exact rs_0 ⟨rfl, h⟩

def VC_table_Weight (a0 : Sl) (R : Int → Bool → World → Prop) (w : World) : Prop :=
  ∃ (I4 : Sl → Sl → Int → World → Prop) (μ5 : Sl → Sl → Int → World → Nat), I4 (⟨none, 0, 0⟩ : Sl) (⟨none, 0, 0⟩ : Sl) 0 w ∧ ∀ (l1 : Sl) (l2 : Sl) (l3 : Int) (w7 : World), I4 l1 l2 l3 w7 → ((l3 < ((a0.n : Nat) : Int) → (∃ k11 : Nat, l3 = ((k11 : Nat) : Int) ∧ k11 < a0.n ∧ (∃ (b13 o14 : Nat), a0.b = some ⟨b13, o14, none⟩ ∧ (∃ v16_0 : ByteArray, ∃ v16_1 : Int, Cells w7 b13 (o14 + k11 * 2) [.string v16_0, .int .i64 v16_1] ∧ (∀ (b18 : Nat) (w19 : World), Priv w7 b18 w19 → (∀ w22 : World, Chg (fun b => b = b18) w19 w22 → (∃ xs33 : List Value, Own w22 t_int 1 l1 xs33 ∧ ((l1.n + 1) * 8 ≤ 140737488355328 ∧ l1.n + 1 ≤ maxLen) ∧ (l1.blk ≠ some b18 ∧ (∀ (s30 : Sl) (w29 : World), App w22 t_int 1 l1 xs33 1 [.int .i64 v16_1] s30 w29 → (∃ z37 : Int, z37 = IntKind.wrap .i64 (((v16_0.size : Nat) : Int) - 1) ∧ (∃ xs47 : List Value, Own w29 t_int 1 l2 xs47 ∧ ((l2.n + 1) * 8 ≤ 140737488355328 ∧ l2.n + 1 ≤ maxLen) ∧ (l2.blk ≠ some b18 ∧ (∀ (s44 : Sl) (w43 : World), App w29 t_int 1 l2 xs47 1 [.int .i64 (max z37 0)] s44 w43 → (∃ z51 : Int, z51 = IntKind.wrap .i64 (((k11 : Nat) : Int) + 1) ∧ (I4 s30 s44 z51 w43 ∧ μ5 s30 s44 z51 w43 < μ5 l1 l2 l3 w7))))))))))))))) ∧ (¬ (l3 < ((a0.n : Nat) : Int)) → (Calls PP n_checked_Dot #[l1.v, l2.v] w7 (fun e w53 => ∃ r56_0 : Int, ∃ r56_1 : Bool, e = .returned (.tuple #[.int .i64 r56_0, .bool r56_1]) ∧ (R r56_0 r56_1 w53)))))
set_option maxRecDepth 100000 in
theorem vc_table_Weight {a0 : Sl} {R : Int → Bool → World → Prop} {w : World} (h : VC_table_Weight a0 R w) : Calls PP n_table_Weight #[a0.v] w fun e w' => ∃ r0 : Int, ∃ r1 : Bool, e = .returned (.tuple #[.int .i64 r0, .bool r1]) ∧ R r0 r1 w' := by
  refine Calls.mono (calls_of_cw (n := 33) (rs := #[.tmp 2, .tmp 3]) (args := [a0.v]) (R := fun v w' => ∃ r0 : Int, ∃ r1 : Bool, v = .tuple #[.int .i64 r0, .bool r1] ∧ R r0 r1 w') Try.func56 rfl rfl (Nat.le_of_ble_eq_true rfl) rfl ?_) ?_
  case refine_2 => rintro e w' ⟨v, rfl, hr⟩; obtain ⟨r0, r1, rfl, hr⟩ := hr; exact ⟨r0, r1, rfl, hr⟩
  have hx : Ext w w := Chg.refl _
  unfold VC_table_Weight at h
  refine cw_seq ?_
  refine cw_region ?_
  refine sl_v rfl (r_as rfl) ?_
  refine sl_v rfl (r_as rfl) ?_
  refine sl_nil ?_
  refine cw_seq ?_
  refine cw_region ?_
  refine sl_v rfl (r_as rfl) ?_
  refine sl_v rfl (r_as rfl) ?_
  refine sl_nil ?_
  refine cw_seq ?_
  refine cw_seq ?_
  refine cw_region ?_
  refine sl_v rfl (r_mv rfl) ?_
  refine sl_v rfl (r_len_l (s := a0) rfl rfl Try.underlying50) ?_
  refine sl_v rfl (r_mv rfl) ?_
  refine sl_nil ?_
  refine cw_block ?_
  obtain ⟨I4, μ5, hI6, h⟩ := h
  refine cw_loop (σ := Sl × Sl × Int) (fun s g => (upd (upd (upd (upd (upd g 4 (s.1.v)) 5 (s.2.1.v)) 8 (a0.v)) 9 (.int .i64 ((a0.n : Nat) : Int))) 10 (.int .i64 s.2.2))) (fun s w => I4 s.1 s.2.1 s.2.2 w) (fun s w => μ5 s.1 s.2.1 s.2.2 w) ((⟨none, 0, 0⟩ : Sl), (⟨none, 0, 0⟩ : Sl), 0) _ (kp (kp (kp (kp (kp rfl rfl) rfl) rfl) rfl) rfl) hI6 ?_
  rintro ⟨l1, l2, l3⟩ g8 w7 hi9
  replace h := h l1 l2 l3 w7 hi9
  have hx : Ext w7 w7 := Chg.refl _
  change CW PP _ _ _ (upd (upd (upd (upd (upd g8 4 (l1.v)) 5 (l2.v)) 8 (a0.v)) 9 (.int .i64 ((a0.n : Nat) : Int))) 10 (.int .i64 l3)) _
  refine cw_seq ?_
  refine cw_region ?_
  refine sl_v rfl (r_lss rfl rfl) ?_
  refine sl_nil ?_
  refine cw_seq ?_
  refine bcases (decide (l3 < ((a0.n : Nat) : Int))) (fun hb10 => ?_) (fun hb10 => ?_)
  · replace h := h.1 (of_decide_eq_true hb10)
    refine cw_ct rfl hb10 ?_
    refine cw_skip ?_
    refine cw_seq ?_
    refine cw_block ?_
    refine cw_seq ?_
    refine cw_region ?_
    obtain ⟨k11, rfl, hk12, h⟩ := h
    obtain ⟨b13, o14, hb15, h⟩ := h
    refine sl_v rfl (ia_sl_api_Word (s := a0) (j := k11) (o' := o14 + k11 * 2) rfl rfl hk12 hb15 rfl) ?_
    obtain ⟨v16_0, v16_1, hc17, h⟩ := h
    refine sl_v rfl (lda_api_Word rfl rfl hc17) ?_
    refine sl_op rfl (al_api_Word rfl (fun b18 w19 hN20 => ?_))
    have hB21 := hN20.here
    replace h := h b18 w19 ⟨hx.tr hN20.ext, Nat.le_trans hx.size hN20.fresh, lt_of_blk hN20.here⟩
    replace hx : Ext w19 w19 := Chg.refl _
    refine sl_op rfl (st_api_Word (vs := [.string v16_0, .int .i64 v16_1]) rfl rfl rfl rfl rfl ⟨_, _, hB21, Nat.le_of_ble_eq_true rfl⟩ (fun w22 hw23 => ?_))
    have hc_ := sto_chg hw23
    replace hB21 : w22.heap[b18]? = some (.cells #[.string v16_0, .int .i64 v16_1] t_api_Word (0, 0)) := sto_blk hw23 hB21
    replace h := h w22 (Chg.pre hx hc_)
    replace hx : Ext w22 w22 := Chg.refl _
    clear hc_
    refine sl_nil ?_
    refine cw_seq ?_
    refine cw_region ?_
    refine sl_v rfl (r_mv rfl) ?_
    refine sl_v rfl (fa_api_Word_1 (o' := 1) rfl rfl) ?_
    refine sl_v rfl (ld_int rfl (cell_blk hB21 rfl)) ?_
    refine sl_op rfl (bs_sl_int (len := 1) (vs := [(0, .int .i64 v16_1)]) (cs := #[.int .i64 v16_1]) (by decide) rfl rfl (fun b24 w25 hN26 => ?_))
    have hne27 : b18 ≠ b24 := Nat.ne_of_lt (Nat.lt_of_lt_of_le (lt_of_blk hB21) hN26.fresh)
    replace hB21 := hN26.ext.get hB21
    have hB28 := hN26.here
    replace hx := hx.tr hN26.ext
    obtain ⟨xs33, ho34, hb35, h⟩ := h
    obtain ⟨hn36, h⟩ := h
    refine sl_op rfl (ap_sl_int (s := l1) (xs := xs33) (m := 1) (news := [.int .i64 v16_1]) rfl rfl hx ho34 (.c (cell_blk hB28 rfl) .n) rfl rfl hb35 (fun s30 w29 ha31 hc32 => ?_))
    replace hB21 := hc32.get hB21 hn36
    replace h := h s30 w29 ha31
    replace hx : Ext w29 w29 := Chg.refl _
    refine sl_v rfl (r_as rfl) ?_
    refine sl_nil ?_
    refine cw_region ?_
    refine sl_v rfl (r_mv rfl) ?_
    refine sl_v rfl (fa_api_Word_0 (o' := 0) rfl rfl) ?_
    refine sl_v rfl (ld_string rfl (cell_blk hB21 rfl)) ?_
    refine sl_v rfl (r_len_s rfl rfl Try.underlying9) ?_
    obtain ⟨z37, hz37, h⟩ := h
    refine sl_v rfl (r_sub rfl rfl hz37) ?_
    refine sl_v rfl (r_max rfl rfl) ?_
    refine sl_op rfl (bs_sl_int (len := 1) (vs := [(0, .int .i64 (max z37 0))]) (cs := #[.int .i64 (max z37 0)]) (by decide) rfl rfl (fun b38 w39 hN40 => ?_))
    have hne41 : b18 ≠ b38 := Nat.ne_of_lt (Nat.lt_of_lt_of_le (lt_of_blk hB21) hN40.fresh)
    replace hB21 := hN40.ext.get hB21
    have hB42 := hN40.here
    replace hx := hx.tr hN40.ext
    obtain ⟨xs47, ho48, hb49, h⟩ := h
    obtain ⟨hn50, h⟩ := h
    refine sl_op rfl (ap_sl_int (s := l2) (xs := xs47) (m := 1) (news := [.int .i64 (max z37 0)]) rfl rfl hx ho48 (.c (cell_blk hB42 rfl) .n) rfl rfl hb49 (fun s44 w43 ha45 hc46 => ?_))
    replace hB21 := hc46.get hB21 hn50
    replace h := h s44 w43 ha45
    replace hx : Ext w43 w43 := Chg.refl _
    refine sl_v rfl (r_as rfl) ?_
    refine sl_nil ?_
    refine cw_region ?_
    obtain ⟨z51, hz51, h⟩ := h
    refine sl_v rfl (r_add rfl rfl hz51) ?_
    refine sl_v rfl (r_mv rfl) ?_
    refine sl_nil ?_
    exact ⟨(s30, s44, z51), _, (kp (kp (kp (kp (kp rfl rfl) rfl) rfl) rfl) rfl), h.1, h.2⟩
  · replace h := h.2 (of_decide_eq_false hb10)
    refine cw_cf rfl hb10 ?_
    refine cw_exit ?_
    refine cw_seq ?_
    refine cw_region ?_
    refine sl_v rfl (r_mv rfl) ?_
    refine sl_v rfl (r_mv rfl) ?_
    refine sl_op rfl (ok_call c_checked_Dot rfl (Calls.mono h (fun e52 w53 hq54 => ?_)))
    clear h
    obtain ⟨r56_0, r56_1, he55, h⟩ := hq54
    refine ⟨_, he55, ?_⟩
    replace hx : Ext w53 w53 := Chg.refl _
    refine sl_v rfl (r_ex rfl rfl) ?_
    refine sl_v rfl (r_ex rfl rfl) ?_
    refine sl_v rfl (r_as rfl) ?_
    refine sl_v rfl (r_as rfl) ?_
    refine sl_nil ?_
    refine cw_ret ?_
    exact rs_2 (rt rfl) (rt rfl) ⟨r56_0, r56_1, rfl, h⟩

def VC_table_Positions (a0 : Sl) (R : Int → World → Prop) (w : World) : Prop :=
  ∃ (I3 : Int → Int → World → Prop) (μ4 : Int → Int → World → Nat), I3 0 0 w ∧ ∀ (l1 : Int) (l2 : Int) (w6 : World), I3 l1 l2 w6 → ((l2 < ((a0.n : Nat) : Int) → (∃ k10 : Nat, l2 = ((k10 : Nat) : Int) ∧ k10 < a0.n ∧ (∃ (b12 o13 : Nat), a0.b = some ⟨b12, o13, none⟩ ∧ (∃ v15_0 : ByteArray, ∃ v15_1 : Int, Cells w6 b12 (o13 + k10 * 2) [.string v15_0, .int .i64 v15_1] ∧ (∀ (b17 : Nat) (w18 : World), Priv w6 b17 w18 → (∀ w21 : World, Chg (fun b => b = b17) w18 w21 → (∃ z23 : Int, z23 = IntKind.wrap .i64 (l1 + ((v15_0.size : Nat) : Int)) ∧ (∃ z24 : Int, z24 = IntKind.wrap .i64 (((k10 : Nat) : Int) + 1) ∧ (I3 z23 z24 w21 ∧ μ4 z23 z24 w21 < μ4 l1 l2 w6))))))))) ∧ (¬ (l2 < ((a0.n : Nat) : Int)) → (R l1 w6)))
set_option maxRecDepth 100000 in
theorem vc_table_Positions {a0 : Sl} {R : Int → World → Prop} {w : World} (h : VC_table_Positions a0 R w) : Calls PP n_table_Positions #[a0.v] w fun e w' => ∃ r0 : Int, e = .returned (.int .i64 r0) ∧ R r0 w' := by
  refine Calls.mono (calls_of_cw (n := 19) (rs := #[.tmp 2]) (args := [a0.v]) (R := fun v w' => ∃ r0 : Int, v = .int .i64 r0 ∧ R r0 w') Try.func57 rfl rfl (Nat.le_of_ble_eq_true rfl) rfl ?_) ?_
  case refine_2 => rintro e w' ⟨v, rfl, hr⟩; obtain ⟨r0, rfl, hr⟩ := hr; exact ⟨r0, rfl, hr⟩
  have hx : Ext w w := Chg.refl _
  unfold VC_table_Positions at h
  refine cw_seq ?_
  refine cw_region ?_
  refine sl_v rfl (r_as rfl) ?_
  refine sl_nil ?_
  refine cw_seq ?_
  refine cw_region ?_
  refine sl_v rfl (r_as rfl) ?_
  refine sl_nil ?_
  refine cw_seq ?_
  refine cw_seq ?_
  refine cw_region ?_
  refine sl_v rfl (r_mv rfl) ?_
  refine sl_v rfl (r_len_l (s := a0) rfl rfl Try.underlying50) ?_
  refine sl_v rfl (r_mv rfl) ?_
  refine sl_nil ?_
  refine cw_block ?_
  obtain ⟨I3, μ4, hI5, h⟩ := h
  refine cw_loop (σ := Int × Int) (fun s g => (upd (upd (upd (upd g 3 (.int .i64 s.1)) 6 (a0.v)) 7 (.int .i64 ((a0.n : Nat) : Int))) 8 (.int .i64 s.2))) (fun s w => I3 s.1 s.2 w) (fun s w => μ4 s.1 s.2 w) (0, 0) _ (kp (kp (kp (kp rfl rfl) rfl) rfl) rfl) hI5 ?_
  rintro ⟨l1, l2⟩ g7 w6 hi8
  replace h := h l1 l2 w6 hi8
  have hx : Ext w6 w6 := Chg.refl _
  change CW PP _ _ _ (upd (upd (upd (upd g7 3 (.int .i64 l1)) 6 (a0.v)) 7 (.int .i64 ((a0.n : Nat) : Int))) 8 (.int .i64 l2)) _
  refine cw_seq ?_
  refine cw_region ?_
  refine sl_v rfl (r_lss rfl rfl) ?_
  refine sl_nil ?_
  refine cw_seq ?_
  refine bcases (decide (l2 < ((a0.n : Nat) : Int))) (fun hb9 => ?_) (fun hb9 => ?_)
  · replace h := h.1 (of_decide_eq_true hb9)
    refine cw_ct rfl hb9 ?_
    refine cw_skip ?_
    refine cw_seq ?_
    refine cw_block ?_
    refine cw_seq ?_
    refine cw_region ?_
    obtain ⟨k10, rfl, hk11, h⟩ := h
    obtain ⟨b12, o13, hb14, h⟩ := h
    refine sl_v rfl (ia_sl_api_Word (s := a0) (j := k10) (o' := o13 + k10 * 2) rfl rfl hk11 hb14 rfl) ?_
    obtain ⟨v15_0, v15_1, hc16, h⟩ := h
    refine sl_v rfl (lda_api_Word rfl rfl hc16) ?_
    refine sl_op rfl (al_api_Word rfl (fun b17 w18 hN19 => ?_))
    have hB20 := hN19.here
    replace h := h b17 w18 ⟨hx.tr hN19.ext, Nat.le_trans hx.size hN19.fresh, lt_of_blk hN19.here⟩
    replace hx : Ext w18 w18 := Chg.refl _
    refine sl_op rfl (st_api_Word (vs := [.string v15_0, .int .i64 v15_1]) rfl rfl rfl rfl rfl ⟨_, _, hB20, Nat.le_of_ble_eq_true rfl⟩ (fun w21 hw22 => ?_))
    have hc_ := sto_chg hw22
    replace hB20 : w21.heap[b17]? = some (.cells #[.string v15_0, .int .i64 v15_1] t_api_Word (0, 0)) := sto_blk hw22 hB20
    replace h := h w21 (Chg.pre hx hc_)
    replace hx : Ext w21 w21 := Chg.refl _
    clear hc_
    refine sl_nil ?_
    refine cw_region ?_
    refine sl_v rfl (r_mv rfl) ?_
    refine sl_v rfl (fa_api_Word_0 (o' := 0) rfl rfl) ?_
    refine sl_v rfl (ld_string rfl (cell_blk hB20 rfl)) ?_
    refine sl_v rfl (r_len_s rfl rfl Try.underlying9) ?_
    obtain ⟨z23, hz23, h⟩ := h
    refine sl_v rfl (r_add rfl rfl hz23) ?_
    refine sl_v rfl (r_as rfl) ?_
    refine sl_nil ?_
    refine cw_region ?_
    obtain ⟨z24, hz24, h⟩ := h
    refine sl_v rfl (r_add rfl rfl hz24) ?_
    refine sl_v rfl (r_mv rfl) ?_
    refine sl_nil ?_
    exact ⟨(z23, z24), _, (kp (kp (kp (kp rfl rfl) rfl) rfl) rfl), h.1, h.2⟩
  · replace h := h.2 (of_decide_eq_false hb9)
    refine cw_cf rfl hb9 ?_
    refine cw_exit ?_
    refine cw_seq ?_
    refine cw_region ?_
    refine sl_v rfl (r_mv rfl) ?_
    refine sl_v rfl (r_as rfl) ?_
    refine sl_nil ?_
    refine cw_ret ?_
    exact rs_1 (rt rfl) ⟨l1, rfl, h⟩

def VC_freq_New (R : Option Addr → World → Prop) (w : World) : Prop :=
  ∀ (b1 : Nat) (w2 : World), New w b1 (.cells #[.map none] t_freq_Counter (0, 0)) w2 → (R (some ⟨b1, 0, none⟩) w2)
set_option maxRecDepth 100000 in
theorem vc_freq_New {R : Option Addr → World → Prop} {w : World} (h : VC_freq_New R w) : Calls PP n_freq_New #[] w fun e w' => ∃ r0 : Option Addr, e = .returned (.pointer r0) ∧ R r0 w' := by
  refine Calls.mono (calls_of_cw (n := 3) (rs := #[.tmp 0]) (args := []) (R := fun v w' => ∃ r0 : Option Addr, v = .pointer r0 ∧ R r0 w') Try.func58 rfl rfl (Nat.le_of_ble_eq_true rfl) rfl ?_) ?_
  case refine_2 => rintro e w' ⟨v, rfl, hr⟩; obtain ⟨r0, rfl, hr⟩ := hr; exact ⟨r0, rfl, hr⟩
  have hx : Ext w w := Chg.refl _
  unfold VC_freq_New at h
  refine cw_seq ?_
  refine cw_region ?_
  refine sl_v rfl (r_as rfl) ?_
  refine sl_nil ?_
  refine cw_seq ?_
  refine cw_region ?_
  refine sl_v rfl (bd_freq_Counter (vs := []) (cs := #[.map none]) rfl rfl) ?_
  refine sl_op rfl (bx_freq_Counter rfl rfl (fun b1 w2 hN3 => ?_))
  replace h := h b1 w2 hN3
  replace hx : Ext w2 w2 := Chg.refl _
  refine sl_v rfl (r_as rfl) ?_
  refine sl_nil ?_
  refine cw_ret ?_
  exact rs_1 (rt rfl) ⟨some ⟨b1, 0, none⟩, rfl, h⟩

def VC_freq_Counter_AddAll (a0 : Option Addr) (a1 : Sl) (R : Int → World → Prop) (w : World) : Prop :=
  ∃ (I2 : Int → World → Prop) (μ3 : Int → World → Nat), I2 0 w ∧ ∀ (l1 : Int) (w5 : World), I2 l1 w5 → ((l1 < ((a1.n : Nat) : Int) → (∃ k9 : Nat, l1 = ((k9 : Nat) : Int) ∧ k9 < a1.n ∧ (∃ (b11 o12 : Nat), a1.b = some ⟨b11, o12, none⟩ ∧ (∃ v14 : ByteArray, w5.cell? ⟨b11, o12 + k9 * 1, none⟩ = some (.string v14) ∧ (Calls PP n_freq_Counter_Add #[.pointer a0, .string v14, .int .i64 1] w5 (fun e w17 => ∃ r20 : Int, e = .returned (.int .i64 r20) ∧ ((r20 ≠ (0 : Int) → (R r20 w17)) ∧ (¬ (r20 ≠ (0 : Int)) → (∃ z22 : Int, z22 = IntKind.wrap .i64 (((k9 : Nat) : Int) + 1) ∧ (I2 z22 w17 ∧ μ3 z22 w17 < μ3 l1 w5)))))))))) ∧ (¬ (l1 < ((a1.n : Nat) : Int)) → (R 0 w5)))
set_option maxRecDepth 100000 in
theorem vc_freq_Counter_AddAll {a0 : Option Addr} {a1 : Sl} {R : Int → World → Prop} {w : World} (h : VC_freq_Counter_AddAll a0 a1 R w) : Calls PP n_freq_Counter_AddAll #[.pointer a0, a1.v] w fun e w' => ∃ r0 : Int, e = .returned (.int .i64 r0) ∧ R r0 w' := by
  refine Calls.mono (calls_of_cw (n := 21) (rs := #[.tmp 4]) (args := [.pointer a0, a1.v]) (R := fun v w' => ∃ r0 : Int, v = .int .i64 r0 ∧ R r0 w') Try.func59 rfl rfl (Nat.le_of_ble_eq_true rfl) rfl ?_) ?_
  case refine_2 => rintro e w' ⟨v, rfl, hr⟩; obtain ⟨r0, rfl, hr⟩ := hr; exact ⟨r0, rfl, hr⟩
  have hx : Ext w w := Chg.refl _
  unfold VC_freq_Counter_AddAll at h
  refine cw_seq ?_
  refine cw_region ?_
  refine sl_v rfl (r_as rfl) ?_
  refine sl_nil ?_
  refine cw_seq ?_
  refine cw_seq ?_
  refine cw_region ?_
  refine sl_v rfl (r_mv rfl) ?_
  refine sl_v rfl (r_len_l (s := a1) rfl rfl Try.underlying37) ?_
  refine sl_v rfl (r_mv rfl) ?_
  refine sl_nil ?_
  refine cw_block ?_
  obtain ⟨I2, μ3, hI4, h⟩ := h
  refine cw_loop (σ := Int) (fun s g => (upd (upd (upd (upd g 0 (.pointer a0)) 8 (a1.v)) 9 (.int .i64 ((a1.n : Nat) : Int))) 10 (.int .i64 s))) (fun s w => I2 s w) (fun s w => μ3 s w) (0) _ (kp (kp (kp (kp rfl rfl) rfl) rfl) rfl) hI4 ?_
  rintro l1 g6 w5 hi7
  replace h := h l1 w5 hi7
  have hx : Ext w5 w5 := Chg.refl _
  change CW PP _ _ _ (upd (upd (upd (upd g6 0 (.pointer a0)) 8 (a1.v)) 9 (.int .i64 ((a1.n : Nat) : Int))) 10 (.int .i64 l1)) _
  refine cw_seq ?_
  refine cw_region ?_
  refine sl_v rfl (r_lss rfl rfl) ?_
  refine sl_nil ?_
  refine cw_seq ?_
  refine bcases (decide (l1 < ((a1.n : Nat) : Int))) (fun hb8 => ?_) (fun hb8 => ?_)
  · replace h := h.1 (of_decide_eq_true hb8)
    refine cw_ct rfl hb8 ?_
    refine cw_skip ?_
    refine cw_seq ?_
    refine cw_block ?_
    refine cw_seq ?_
    refine cw_region ?_
    obtain ⟨k9, rfl, hk10, h⟩ := h
    obtain ⟨b11, o12, hb13, h⟩ := h
    refine sl_v rfl (ia_sl_string (s := a1) (j := k9) (o' := o12 + k9 * 1) rfl rfl hk10 hb13 rfl) ?_
    obtain ⟨v14, hc15, h⟩ := h
    refine sl_v rfl (ld_string rfl hc15) ?_
    refine sl_v rfl (r_as rfl) ?_
    refine sl_nil ?_
    refine cw_seq ?_
    refine cw_region ?_
    refine sl_v rfl (r_mv rfl) ?_
    refine sl_v rfl (r_mv rfl) ?_
    refine sl_op rfl (ok_call c_freq_Counter_Add rfl (Calls.mono h (fun e16 w17 hq18 => ?_)))
    clear h
    obtain ⟨r20, he19, h⟩ := hq18
    refine ⟨_, he19, ?_⟩
    replace hx : Ext w17 w17 := Chg.refl _
    refine sl_v rfl (r_as rfl) ?_
    refine sl_nil ?_
    refine cw_seq ?_
    refine cw_region ?_
    refine sl_v rfl (r_mv rfl) ?_
    refine sl_v rfl (r_neq rfl rfl) ?_
    refine sl_nil ?_
    refine bcases (decide (r20 ≠ (0 : Int))) (fun hb21 => ?_) (fun hb21 => ?_)
    · replace h := h.1 (of_decide_eq_true hb21)
      refine cw_ct rfl hb21 ?_
      refine cw_seq ?_
      refine cw_region ?_
      refine sl_v rfl (r_mv rfl) ?_
      refine sl_v rfl (r_as rfl) ?_
      refine sl_nil ?_
      refine cw_ret ?_
      exact rs_1 (rt rfl) ⟨r20, rfl, h⟩
    · replace h := h.2 (of_decide_eq_false hb21)
      refine cw_cf rfl hb21 ?_
      refine cw_skip ?_
      refine cw_region ?_
      obtain ⟨z22, hz22, h⟩ := h
      refine sl_v rfl (r_add rfl rfl hz22) ?_
      refine sl_v rfl (r_mv rfl) ?_
      refine sl_nil ?_
      exact ⟨(z22), _, (kp (kp (kp (kp rfl rfl) rfl) rfl) rfl), h.1, h.2⟩
  · replace h := h.2 (of_decide_eq_false hb8)
    refine cw_cf rfl hb8 ?_
    refine cw_exit ?_
    refine cw_seq ?_
    refine cw_region ?_
    refine sl_v rfl (r_as rfl) ?_
    refine sl_nil ?_
    refine cw_ret ?_
    exact rs_1 (rt rfl) ⟨0, rfl, h⟩

def VC_freq_Counter_Freeze (a0 : Option Addr) (R : Sl → World → Prop) (w : World) : Prop :=
  (a0 = none → (R (⟨none, 0, 0⟩ : Sl) w)) ∧ (¬ (a0 = none) → (∃ (b2 o3 : Nat), a0 = some ⟨b2, o3, none⟩ ∧ (∃ v4 : Option Nat, w.cell? ⟨b2, o3, none⟩ = some (.map v4) ∧ (Calls PP n_maps_Keys_map_string_int_string_int #[.map v4] w (fun e w7 => ∃ r10 : Value, e = .returned (r10) ∧ (Calls PP n_slices_Sorted_string #[r10] w7 (fun e w12 => ∃ r15 : Sl, e = .returned (r15.v) ∧ (∃ (I18 : Sl → Int → World → Prop) (μ19 : Sl → Int → World → Nat), I18 (⟨none, 0, 0⟩ : Sl) 0 w12 ∧ ∀ (l16 : Sl) (l17 : Int) (w21 : World), I18 l16 l17 w21 → ((l17 < ((r15.n : Nat) : Int) → (∃ k25 : Nat, l17 = ((k25 : Nat) : Int) ∧ k25 < r15.n ∧ (∃ (b27 o28 : Nat), r15.b = some ⟨b27, o28, none⟩ ∧ (∃ v30 : ByteArray, w21.cell? ⟨b27, o28 + k25 * 1, none⟩ = some (.string v30) ∧ (∃ v32 : Option Nat, w21.cell? ⟨b2, o3, none⟩ = some (.map v32) ∧ (∃ es34 : List (ByteArray × Int), Mp strV intV w21 v32 es34 ∧ (∃ z36 : Int, z36 = (mget v30 es34).getD 0 ∧ (∃ xs45 : List Value, Own w21 t_api_Word 2 l16 xs45 ∧ ((l16.n + 1) * 24 ≤ 140737488355328 ∧ l16.n + 1 ≤ maxLen) ∧ (∀ (s42 : Sl) (w41 : World), App w21 t_api_Word 2 l16 xs45 1 [.string v30, .int .i64 z36] s42 w41 → (∃ z48 : Int, z48 = IntKind.wrap .i64 (((k25 : Nat) : Int) + 1) ∧ (I18 s42 z48 w41 ∧ μ19 s42 z48 w41 < μ19 l16 l17 w21))))))))))) ∧ (¬ (l17 < ((r15.n : Nat) : Int)) → (R l16 w21)))))))))))
set_option maxRecDepth 100000 in
theorem vc_freq_Counter_Freeze {a0 : Option Addr} {R : Sl → World → Prop} {w : World} (h : VC_freq_Counter_Freeze a0 R w) : Calls PP n_freq_Counter_Freeze #[.pointer a0] w fun e w' => ∃ r0 : Sl, e = .returned (r0.v) ∧ R r0 w' := by
  refine Calls.mono (calls_of_cw (n := 32) (rs := #[.tmp 2]) (args := [.pointer a0]) (R := fun v w' => ∃ r0 : Sl, v = r0.v ∧ R r0 w') Try.func60 rfl rfl (Nat.le_of_ble_eq_true rfl) rfl ?_) ?_
  case refine_2 => rintro e w' ⟨v, rfl, hr⟩; obtain ⟨r0, rfl, hr⟩ := hr; exact ⟨r0, rfl, hr⟩
  have hx : Ext w w := Chg.refl _
  unfold VC_freq_Counter_Freeze at h
  refine cw_seq ?_
  refine cw_region ?_
  refine sl_v rfl (r_as rfl) ?_
  refine sl_nil ?_
  refine cw_seq ?_
  refine cw_seq ?_
  refine cw_region ?_
  refine sl_v rfl (r_mv rfl) ?_
  refine sl_v rfl (p_eqn rfl rfl Try.underlying92) ?_
  refine sl_nil ?_
  refine bcases (decide (a0 = none)) (fun hb1 => ?_) (fun hb1 => ?_)
  · replace h := h.1 (of_decide_eq_true hb1)
    refine cw_ct rfl hb1 ?_
    refine cw_seq ?_
    refine cw_region ?_
    refine sl_v rfl (r_as rfl) ?_
    refine sl_nil ?_
    refine cw_ret ?_
    exact rs_1 (rt rfl) ⟨(⟨none, 0, 0⟩ : Sl), rfl, h⟩
  · replace h := h.2 (of_decide_eq_false hb1)
    refine cw_cf rfl hb1 ?_
    refine cw_skip ?_
    refine cw_seq ?_
    refine cw_region ?_
    refine sl_v rfl (r_as rfl) ?_
    refine sl_nil ?_
    refine cw_seq ?_
    refine cw_seq ?_
    refine cw_region ?_
    refine sl_v rfl (r_mv rfl) ?_
    obtain ⟨b2, o3, rfl, h⟩ := h
    refine sl_v rfl (r_nc rfl) ?_
    refine sl_v rfl (fa_freq_Counter_0 (o' := o3) rfl rfl) ?_
    obtain ⟨v4, hc5, h⟩ := h
    refine sl_v rfl (ld_map_string_int rfl hc5) ?_
    refine sl_op rfl (ok_call c_maps_Keys_map_string_int_string_int rfl (Calls.mono h (fun e6 w7 hq8 => ?_)))
    clear h
    obtain ⟨r10, he9, h⟩ := hq8
    refine ⟨_, he9, ?_⟩
    replace hx : Ext w7 w7 := Chg.refl _
    refine sl_op rfl (ok_call c_slices_Sorted_string rfl (Calls.mono h (fun e11 w12 hq13 => ?_)))
    clear h
    obtain ⟨r15, he14, h⟩ := hq13
    refine ⟨_, he14, ?_⟩
    replace hx : Ext w12 w12 := Chg.refl _
    refine sl_v rfl (r_len_l (s := r15) rfl rfl Try.underlying37) ?_
    refine sl_v rfl (r_mv rfl) ?_
    refine sl_nil ?_
    refine cw_block ?_
    obtain ⟨I18, μ19, hI20, h⟩ := h
    refine cw_loop (σ := Sl × Int) (fun s g => (upd (upd (upd (upd (upd g 0 (.pointer (some ⟨b2, o3, none⟩))) 3 (s.1.v)) 13 (r15.v)) 14 (.int .i64 ((r15.n : Nat) : Int))) 15 (.int .i64 s.2))) (fun s w => I18 s.1 s.2 w) (fun s w => μ19 s.1 s.2 w) ((⟨none, 0, 0⟩ : Sl), 0) _ (kp (kp (kp (kp (kp rfl rfl) rfl) rfl) rfl) rfl) hI20 ?_
    rintro ⟨l16, l17⟩ g22 w21 hi23
    replace h := h l16 l17 w21 hi23
    have hx : Ext w21 w21 := Chg.refl _
    change CW PP _ _ _ (upd (upd (upd (upd (upd g22 0 (.pointer (some ⟨b2, o3, none⟩))) 3 (l16.v)) 13 (r15.v)) 14 (.int .i64 ((r15.n : Nat) : Int))) 15 (.int .i64 l17)) _
    refine cw_seq ?_
    refine cw_region ?_
    refine sl_v rfl (r_lss rfl rfl) ?_
    refine sl_nil ?_
    refine cw_seq ?_
    refine bcases (decide (l17 < ((r15.n : Nat) : Int))) (fun hb24 => ?_) (fun hb24 => ?_)
    · replace h := h.1 (of_decide_eq_true hb24)
      refine cw_ct rfl hb24 ?_
      refine cw_skip ?_
      refine cw_seq ?_
      refine cw_block ?_
      refine cw_seq ?_
      refine cw_region ?_
      obtain ⟨k25, rfl, hk26, h⟩ := h
      obtain ⟨b27, o28, hb29, h⟩ := h
      refine sl_v rfl (ia_sl_string (s := r15) (j := k25) (o' := o28 + k25 * 1) rfl rfl hk26 hb29 rfl) ?_
      obtain ⟨v30, hc31, h⟩ := h
      refine sl_v rfl (ld_string rfl hc31) ?_
      refine sl_v rfl (r_as rfl) ?_
      refine sl_nil ?_
      refine cw_region ?_
      refine sl_v rfl (r_mv rfl) ?_
      refine sl_v rfl (r_mv rfl) ?_
      refine sl_v rfl (r_mv rfl) ?_
      refine sl_v rfl (r_nc rfl) ?_
      refine sl_v rfl (fa_freq_Counter_0 (o' := o3) rfl rfl) ?_
      obtain ⟨v32, hc33, h⟩ := h
      refine sl_v rfl (ld_map_string_int rfl hc33) ?_
      refine sl_v rfl (r_mv rfl) ?_
      obtain ⟨es34, hm35, h⟩ := h
      obtain ⟨z36, hz36, h⟩ := h
      refine sl_v rfl (RV.cast (v' := .int .i64 z36) (by subst hz36; rfl) (lk_map_string_int (a := v30) rfl rfl hm35)) ?_
      refine sl_v rfl (bd_api_Word (vs := [(0, .string v30), (1, .int .i64 z36)]) (cs := #[.string v30, .int .i64 z36]) rfl rfl) ?_
      refine sl_op rfl (bs_sl_api_Word (len := 1) (vs := [(0, .agg #[.string v30, .int .i64 z36])]) (cs := #[.string v30, .int .i64 z36]) (by decide) rfl rfl (fun b37 w38 hN39 => ?_))
      have hB40 := hN39.here
      replace hx := hx.tr hN39.ext
      obtain ⟨xs45, ho46, hb47, h⟩ := h
      refine sl_op rfl (ap_sl_api_Word (s := l16) (xs := xs45) (m := 1) (news := [.string v30, .int .i64 z36]) rfl rfl hx ho46 (.c (cell_blk hB40 rfl) (.c (cell_blk hB40 rfl) .n)) rfl rfl hb47 (fun s42 w41 ha43 hc44 => ?_))
      replace h := h s42 w41 ha43
      replace hx : Ext w41 w41 := Chg.refl _
      refine sl_v rfl (r_as rfl) ?_
      refine sl_nil ?_
      refine cw_region ?_
      obtain ⟨z48, hz48, h⟩ := h
      refine sl_v rfl (r_add rfl rfl hz48) ?_
      refine sl_v rfl (r_mv rfl) ?_
      refine sl_nil ?_
      exact ⟨(s42, z48), _, (kp (kp (kp (kp (kp rfl rfl) rfl) rfl) rfl) rfl), h.1, h.2⟩
    · replace h := h.2 (of_decide_eq_false hb24)
      refine cw_cf rfl hb24 ?_
      refine cw_exit ?_
      refine cw_seq ?_
      refine cw_region ?_
      refine sl_v rfl (r_mv rfl) ?_
      refine sl_v rfl (r_as rfl) ?_
      refine sl_nil ?_
      refine cw_ret ?_
      exact rs_1 (rt rfl) ⟨l16, rfl, h⟩

def VC_table_wrong (a0 : ByteArray) (a1_0 : ByteArray) (a1_1 : Int) (R : Int → World → Prop) (w : World) : Prop :=
  ∀ (b1 : Nat) (w2 : World), Priv w b1 w2 → (∃ K6 : Bool → World → Prop, (∀ (j5 : Bool) (w8 : World), K6 j5 w8 → ((j5 = true → (R 1 w8)) ∧ (j5 = false → (((65536 : Int) < ((a1_0.size : Nat) : Int) → (R 4 w8)) ∧ (¬ ((65536 : Int) < ((a1_0.size : Nat) : Int)) → (((bless a1_0 a0 || decide (a1_0 = a0)) = true → (R 6 w8)) ∧ ((bless a1_0 a0 || decide (a1_0 = a0)) = false → (R 0 w8)))))))) ∧ ((a1_0 = (⟨#[]⟩ : ByteArray) → (K6 true w2)) ∧ (¬ (a1_0 = (⟨#[]⟩ : ByteArray)) → (K6 (decide (a1_1 < (1 : Int))) w2))))
set_option maxRecDepth 100000 in
theorem vc_table_wrong {a0 : ByteArray} {a1_0 : ByteArray} {a1_1 : Int} {R : Int → World → Prop} {w : World} (h : VC_table_wrong a0 a1_0 a1_1 R w) : Calls PP n_table_wrong #[.string a0, .agg #[.string a1_0, .int .i64 a1_1]] w fun e w' => ∃ r0 : Int, e = .returned (.int .i64 r0) ∧ R r0 w' := by
  refine Calls.mono (calls_of_cw (n := 24) (rs := #[.tmp 4]) (args := [.string a0, .agg #[.string a1_0, .int .i64 a1_1]]) (R := fun v w' => ∃ r0 : Int, v = .int .i64 r0 ∧ R r0 w') Try.func61 rfl rfl (Nat.le_of_ble_eq_true rfl) rfl ?_) ?_
  case refine_2 => rintro e w' ⟨v, rfl, hr⟩; obtain ⟨r0, rfl, hr⟩ := hr; exact ⟨r0, rfl, hr⟩
  have hx : Ext w w := Chg.refl _
  unfold VC_table_wrong at h
  refine cw_seq ?_
  refine cw_region ?_
  refine sl_op rfl (bx_api_Word rfl rfl (fun b1 w2 hN3 => ?_))
  have hB4 := hN3.here
  replace h := h b1 w2 ⟨hx.tr hN3.ext, Nat.le_trans hx.size hN3.fresh, lt_of_blk hN3.here⟩
  replace hx : Ext w2 w2 := Chg.refl _
  refine sl_v rfl (r_as rfl) ?_
  refine sl_nil ?_
  refine cw_seq ?_
  refine cw_block ?_
  obtain ⟨K6, hK7, h⟩ := h
  refine cw_mid (fun f w => ∃ (g : Env) (j5 : Bool), f = (upd (upd (upd g 0 (.string a0)) 3 (.pointer (some ⟨b1, 0, none⟩))) 5 (.bool j5)) ∧ w.heap[b1]? = some (.cells #[.string a1_0, .int .i64 a1_1] t_api_Word (0, 0)) ∧ K6 j5 w) ?_ (fun _ w8 hM10 => ?_)
  ·
    refine cw_region ?_
    refine sl_v rfl (fa_api_Word_0 (o' := 0) rfl rfl) ?_
    refine sl_v rfl (ld_string rfl (cell_blk hB4 rfl)) ?_
    refine sl_v rfl (s_eql rfl rfl) ?_
    refine sl_v rfl (r_mv rfl) ?_
    refine bcases (decide (a1_0 = (⟨#[]⟩ : ByteArray))) (fun hb11 => ?_) (fun hb11 => ?_)
    · replace h := h.1 (of_decide_eq_true hb11)
      refine sl_no rfl rfl rfl hb11 ?_
      refine sl_no rfl rfl rfl hb11 ?_
      refine sl_no rfl rfl rfl hb11 ?_
      refine sl_v rfl (r_pt rfl hb11 rfl) ?_
      refine sl_v rfl (r_as rfl) ?_
      refine sl_nil ?_
      exact ⟨_, true, (kp (kp (kp rfl rfl) rfl) rfl), hB4, h⟩
    · replace h := h.2 (of_decide_eq_false hb11)
      refine sl_vg rfl rfl rfl hb11 (fa_api_Word_1 (o' := 1) rfl rfl) ?_
      refine sl_vg rfl rfl rfl hb11 (ld_int rfl (cell_blk hB4 rfl)) ?_
      refine sl_vg rfl rfl rfl hb11 (r_lss rfl rfl) ?_
      refine sl_v rfl (r_pf rfl hb11 rfl) ?_
      refine sl_v rfl (r_as rfl) ?_
      refine sl_nil ?_
      exact ⟨_, decide (a1_1 < (1 : Int)), (kp (kp (kp rfl rfl) rfl) rfl), hB4, h⟩
  ·
    obtain ⟨g9, j5, rfl, hB12, hM10⟩ := hM10
    replace h := hK7 j5 w8 hM10
    have hx : Ext w8 w8 := Chg.refl _
    refine bcases (j5) (fun hb13 => ?_) (fun hb13 => ?_)
    · replace h := h.1 hb13
      refine cw_ct rfl hb13 ?_
      refine cw_seq ?_
      refine cw_region ?_
      refine sl_v rfl (r_as rfl) ?_
      refine sl_nil ?_
      refine cw_ret ?_
      exact rs_1 (rt rfl) ⟨1, rfl, h⟩
    · replace h := h.2 hb13
      refine cw_cf rfl hb13 ?_
      refine cw_seq ?_
      refine cw_region ?_
      refine sl_v rfl (fa_api_Word_0 (o' := 0) rfl rfl) ?_
      refine sl_v rfl (ld_string rfl (cell_blk hB12 rfl)) ?_
      refine sl_v rfl (r_len_s rfl rfl Try.underlying9) ?_
      refine sl_v rfl (r_gtr rfl rfl) ?_
      refine sl_v rfl (r_as rfl) ?_
      refine sl_nil ?_
      refine bcases (decide ((65536 : Int) < ((a1_0.size : Nat) : Int))) (fun hb14 => ?_) (fun hb14 => ?_)
      · replace h := h.1 (of_decide_eq_true hb14)
        refine cw_ct rfl hb14 ?_
        refine cw_seq ?_
        refine cw_region ?_
        refine sl_v rfl (r_as rfl) ?_
        refine sl_nil ?_
        refine cw_ret ?_
        exact rs_1 (rt rfl) ⟨4, rfl, h⟩
      · replace h := h.2 (of_decide_eq_false hb14)
        refine cw_cf rfl hb14 ?_
        refine cw_seq ?_
        refine cw_region ?_
        refine sl_v rfl (fa_api_Word_0 (o' := 0) rfl rfl) ?_
        refine sl_v rfl (ld_string rfl (cell_blk hB12 rfl)) ?_
        refine sl_v rfl (r_mv rfl) ?_
        refine sl_v rfl (s_leq rfl rfl) ?_
        refine sl_v rfl (r_as rfl) ?_
        refine sl_nil ?_
        refine bcases (bless a1_0 a0 || decide (a1_0 = a0)) (fun hb15 => ?_) (fun hb15 => ?_)
        · replace h := h.1 hb15
          refine cw_ct rfl hb15 ?_
          refine cw_seq ?_
          refine cw_region ?_
          refine sl_v rfl (r_as rfl) ?_
          refine sl_nil ?_
          refine cw_ret ?_
          exact rs_1 (rt rfl) ⟨6, rfl, h⟩
        · replace h := h.2 hb15
          refine cw_cf rfl hb15 ?_
          refine cw_skip ?_
          refine cw_seq ?_
          refine cw_region ?_
          refine sl_v rfl (r_as rfl) ?_
          refine sl_nil ?_
          refine cw_ret ?_
          exact rs_1 (rt rfl) ⟨0, rfl, h⟩
end Go.Proofs.Ytcgeeddhneopfaa.G
