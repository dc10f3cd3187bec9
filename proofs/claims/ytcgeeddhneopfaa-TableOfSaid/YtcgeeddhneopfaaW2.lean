/- What is to be shown of each function, and that it is enough. -/
import Derived.Test.YtcgeeddhneopfaaT
set_option linter.unusedVariables false
namespace Go.Proofs.Ytcgeeddhneopfaa.G
open Go Go.RowKit
def VC_vocab_Vocab_Uses (a0 : Option Addr) (a1 : ByteArray) (R : Int → World → Prop) (w : World) : Prop :=
  (a0 = none → (R 0 w)) ∧ (¬ (a0 = none) → (∃ (b2 o3 : Nat), a0 = some ⟨b2, o3, none⟩ ∧ (∃ v4 : Option Nat, w.cell? ⟨b2, o3 + 1, none⟩ = some (.map v4) ∧ (∃ es6 : List (ByteArray × Int), Mp strV intV w v4 es6 ∧ (∃ z8 : Int, z8 = (mget a1 es6).getD 0 ∧ (R z8 w))))))
set_option maxRecDepth 100000 in
theorem vc_vocab_Vocab_Uses {a0 : Option Addr} {a1 : ByteArray} {R : Int → World → Prop} {w : World} (h : VC_vocab_Vocab_Uses a0 a1 R w) : Calls PP n_vocab_Vocab_Uses #[.pointer a0, .string a1] w fun e w' => ∃ r0 : Int, e = .returned (.int .i64 r0) ∧ R r0 w' := by
  refine Calls.mono (calls_of_cw (n := 13) (rs := #[.tmp 4]) (args := [.pointer a0, .string a1]) (R := fun v w' => ∃ r0 : Int, v = .int .i64 r0 ∧ R r0 w') Try.func17 rfl rfl (Nat.le_of_ble_eq_true rfl) rfl ?_) ?_
  case refine_2 => rintro e w' ⟨v, rfl, hr⟩; obtain ⟨r0, rfl, hr⟩ := hr; exact ⟨r0, rfl, hr⟩
  have hx : Ext w w := Chg.refl _
  unfold VC_vocab_Vocab_Uses at h
  refine cw_seq ?_
  refine cw_region ?_
  refine sl_v rfl (r_as rfl) ?_
  refine sl_nil ?_
  refine cw_seq ?_
  refine cw_seq ?_
  refine cw_region ?_
  refine sl_v rfl (r_mv rfl) ?_
  refine sl_v rfl (p_eqn rfl rfl Try.underlying25) ?_
  refine sl_nil ?_
  refine bcases (decide (a0 = none)) (fun hb1 => ?_) (fun hb1 => ?_)
  · replace h := h.1 (of_decide_eq_true hb1)
    refine cw_ct rfl hb1 ?_
    refine cw_seq ?_
    refine cw_region ?_
    refine sl_v rfl (r_as rfl) ?_
    refine sl_nil ?_
    refine cw_ret ?_
    exact rs_1 (rt rfl) ⟨0, rfl, h⟩
  · replace h := h.2 (of_decide_eq_false hb1)
    refine cw_cf rfl hb1 ?_
    refine cw_skip ?_
    refine cw_seq ?_
    refine cw_region ?_
    refine sl_v rfl (r_mv rfl) ?_
    obtain ⟨b2, o3, rfl, h⟩ := h
    refine sl_v rfl (r_nc rfl) ?_
    refine sl_v rfl (fa_vocab_Vocab_1 (o' := o3 + 1) rfl rfl) ?_
    obtain ⟨v4, hc5, h⟩ := h
    refine sl_v rfl (ld_map_string_int rfl hc5) ?_
    refine sl_v rfl (r_mv rfl) ?_
    obtain ⟨es6, hm7, h⟩ := h
    obtain ⟨z8, hz8, h⟩ := h
    refine sl_v rfl (RV.cast (v' := .int .i64 z8) (by subst hz8; rfl) (lk_map_string_int (a := a1) rfl rfl hm7)) ?_
    refine sl_v rfl (r_as rfl) ?_
    refine sl_nil ?_
    refine cw_ret ?_
    exact rs_1 (rt rfl) ⟨z8, rfl, h⟩

def VC_ref21_Uses (a0 : Sl) (a1 : ByteArray) (R : Int → World → Prop) (w : World) : Prop :=
  ∃ (I3 : Int → Int → World → Prop) (μ4 : Int → Int → World → Nat), I3 0 0 w ∧ ∀ (l1 : Int) (l2 : Int) (w6 : World), I3 l1 l2 w6 → ((l2 < ((a0.n : Nat) : Int) → (∃ K11 : Int → World → Prop, (∀ (j10 : Int) (w13 : World), K11 j10 w13 → (∃ k25 : Nat, l2 = ((k25 : Nat) : Int) ∧ k25 < a0.n ∧ (∃ (b27 o28 : Nat), a0.b = some ⟨b27, o28, none⟩ ∧ (∃ v30 : ByteArray, w13.cell? ⟨b27, o28 + k25 * 2 + 1, none⟩ = some (.string v30) ∧ ((v30 = a1 → (∃ z33 : Int, z33 = IntKind.wrap .i64 (j10 + 1) ∧ (∃ z34 : Int, z34 = IntKind.wrap .i64 (((k25 : Nat) : Int) + 1) ∧ (I3 z33 z34 w13 ∧ μ4 z33 z34 w13 < μ4 l1 l2 w6)))) ∧ (¬ (v30 = a1) → (∃ z35 : Int, z35 = IntKind.wrap .i64 (((k25 : Nat) : Int) + 1) ∧ (I3 j10 z35 w13 ∧ μ4 j10 z35 w13 < μ4 l1 l2 w6)))))))) ∧ (∃ k16 : Nat, l2 = ((k16 : Nat) : Int) ∧ k16 < a0.n ∧ (∃ (b18 o19 : Nat), a0.b = some ⟨b18, o19, none⟩ ∧ (∃ v21 : ByteArray, w6.cell? ⟨b18, o19 + k16 * 2, none⟩ = some (.string v21) ∧ ((v21 = a1 → (∃ z24 : Int, z24 = IntKind.wrap .i64 (l1 + 1) ∧ (K11 z24 w6))) ∧ (¬ (v21 = a1) → (K11 l1 w6)))))))) ∧ (¬ (l2 < ((a0.n : Nat) : Int)) → (R l1 w6)))
set_option maxRecDepth 100000 in
theorem vc_ref21_Uses {a0 : Sl} {a1 : ByteArray} {R : Int → World → Prop} {w : World} (h : VC_ref21_Uses a0 a1 R w) : Calls PP n_ref21_Uses #[a0.v, .string a1] w fun e w' => ∃ r0 : Int, e = .returned (.int .i64 r0) ∧ R r0 w' := by
  refine Calls.mono (calls_of_cw (n := 32) (rs := #[.tmp 4]) (args := [a0.v, .string a1]) (R := fun v w' => ∃ r0 : Int, v = .int .i64 r0 ∧ R r0 w') Try.func18 rfl rfl (Nat.le_of_ble_eq_true rfl) rfl ?_) ?_
  case refine_2 => rintro e w' ⟨v, rfl, hr⟩; obtain ⟨r0, rfl, hr⟩ := hr; exact ⟨r0, rfl, hr⟩
  have hx : Ext w w := Chg.refl _
  unfold VC_ref21_Uses at h
  refine cw_seq ?_
  refine cw_region ?_
  refine sl_v rfl (r_as rfl) ?_
  refine sl_nil ?_
  refine cw_seq ?_
  refine cw_region ?_
  refine sl_v rfl (r_as rfl) ?_
  refine sl_nil ?_
  refine cw_seq ?_
  refine cw_seq ?_
  refine cw_region ?_
  refine sl_v rfl (r_as rfl) ?_
  refine sl_nil ?_
  refine cw_block ?_
  obtain ⟨I3, μ4, hI5, h⟩ := h
  refine cw_loop (σ := Int × Int) (fun s g => (upd (upd (upd (upd g 0 (a0.v)) 1 (.string a1)) 5 (.int .i64 s.1)) 6 (.int .i64 s.2))) (fun s w => I3 s.1 s.2 w) (fun s w => μ4 s.1 s.2 w) (0, 0) _ (kp (kp (kp (kp rfl rfl) rfl) rfl) rfl) hI5 ?_
  rintro ⟨l1, l2⟩ g7 w6 hi8
  replace h := h l1 l2 w6 hi8
  have hx : Ext w6 w6 := Chg.refl _
  change CW PP _ _ _ (upd (upd (upd (upd g7 0 (a0.v)) 1 (.string a1)) 5 (.int .i64 l1)) 6 (.int .i64 l2)) _
  refine cw_seq ?_
  refine cw_seq ?_
  refine cw_region ?_
  refine sl_v rfl (r_mv rfl) ?_
  refine sl_v rfl (r_mv rfl) ?_
  refine sl_v rfl (r_len_l (s := a0) rfl rfl Try.underlying22) ?_
  refine sl_v rfl (r_lss rfl rfl) ?_
  refine sl_nil ?_
  refine bcases (decide (l2 < ((a0.n : Nat) : Int))) (fun hb9 => ?_) (fun hb9 => ?_)
  · replace h := h.1 (of_decide_eq_true hb9)
    refine cw_ct rfl hb9 ?_
    refine cw_skip ?_
    refine cw_seq ?_
    refine cw_block ?_
    obtain ⟨K11, hK12, h⟩ := h
    refine cw_mid (fun f w => ∃ (g : Env) (j10 : Int), f = (upd (upd (upd (upd g 0 (a0.v)) 1 (.string a1)) 5 (.int .i64 j10)) 6 (.int .i64 l2)) ∧ K11 j10 w) ?_ (fun _ w13 hM15 => ?_)
    ·
      refine cw_seq ?_
      refine cw_region ?_
      refine sl_v rfl (r_mv rfl) ?_
      refine sl_v rfl (r_mv rfl) ?_
      obtain ⟨k16, rfl, hk17, h⟩ := h
      obtain ⟨b18, o19, hb20, h⟩ := h
      refine sl_v rfl (ia_sl_api_Merge (s := a0) (j := k16) (o' := o19 + k16 * 2) rfl rfl hk17 hb20 rfl) ?_
      refine sl_v rfl (fa_api_Merge_0 (o' := o19 + k16 * 2) rfl rfl) ?_
      obtain ⟨v21, hc22, h⟩ := h
      refine sl_v rfl (ld_string rfl hc22) ?_
      refine sl_v rfl (r_mv rfl) ?_
      refine sl_v rfl (s_eql rfl rfl) ?_
      refine sl_nil ?_
      refine bcases (decide (v21 = a1)) (fun hb23 => ?_) (fun hb23 => ?_)
      · replace h := h.1 (of_decide_eq_true hb23)
        refine cw_ct rfl hb23 ?_
        refine cw_region ?_
        refine sl_v rfl (r_mv rfl) ?_
        obtain ⟨z24, hz24, h⟩ := h
        refine sl_v rfl (r_add rfl rfl hz24) ?_
        refine sl_v rfl (r_as rfl) ?_
        refine sl_nil ?_
        exact ⟨_, z24, (kp (kp (kp (kp rfl rfl) rfl) rfl) rfl), h⟩
      · replace h := h.2 (of_decide_eq_false hb23)
        refine cw_cf rfl hb23 ?_
        refine cw_skip ?_
        exact ⟨_, l1, (kp (kp (kp (kp rfl rfl) rfl) rfl) rfl), h⟩
    ·
      obtain ⟨g14, j10, rfl, hM15⟩ := hM15
      replace h := hK12 j10 w13 hM15
      have hx : Ext w13 w13 := Chg.refl _
      refine cw_seq ?_
      refine cw_region ?_
      refine sl_v rfl (r_mv rfl) ?_
      refine sl_v rfl (r_mv rfl) ?_
      obtain ⟨k25, rfl, hk26, h⟩ := h
      obtain ⟨b27, o28, hb29, h⟩ := h
      refine sl_v rfl (ia_sl_api_Merge (s := a0) (j := k25) (o' := o28 + k25 * 2) rfl rfl hk26 hb29 rfl) ?_
      refine sl_v rfl (fa_api_Merge_1 (o' := o28 + k25 * 2 + 1) rfl rfl) ?_
      obtain ⟨v30, hc31, h⟩ := h
      refine sl_v rfl (ld_string rfl hc31) ?_
      refine sl_v rfl (r_mv rfl) ?_
      refine sl_v rfl (s_eql rfl rfl) ?_
      refine sl_nil ?_
      refine bcases (decide (v30 = a1)) (fun hb32 => ?_) (fun hb32 => ?_)
      · replace h := h.1 (of_decide_eq_true hb32)
        refine cw_ct rfl hb32 ?_
        refine cw_region ?_
        refine sl_v rfl (r_mv rfl) ?_
        obtain ⟨z33, hz33, h⟩ := h
        refine sl_v rfl (r_add rfl rfl hz33) ?_
        refine sl_v rfl (r_as rfl) ?_
        refine sl_nil ?_
        refine cw_region ?_
        refine sl_v rfl (r_mv rfl) ?_
        obtain ⟨z34, hz34, h⟩ := h
        refine sl_v rfl (r_add rfl rfl hz34) ?_
        refine sl_v rfl (r_as rfl) ?_
        refine sl_nil ?_
        exact ⟨(z33, z34), _, (kp (kp (kp (kp rfl rfl) rfl) rfl) rfl), h.1, h.2⟩
      · replace h := h.2 (of_decide_eq_false hb32)
        refine cw_cf rfl hb32 ?_
        refine cw_skip ?_
        refine cw_region ?_
        refine sl_v rfl (r_mv rfl) ?_
        obtain ⟨z35, hz35, h⟩ := h
        refine sl_v rfl (r_add rfl rfl hz35) ?_
        refine sl_v rfl (r_as rfl) ?_
        refine sl_nil ?_
        exact ⟨(j10, z35), _, (kp (kp (kp (kp rfl rfl) rfl) rfl) rfl), h.1, h.2⟩
  · replace h := h.2 (of_decide_eq_false hb9)
    refine cw_cf rfl hb9 ?_
    refine cw_exit ?_
    refine cw_seq ?_
    refine cw_region ?_
    refine sl_v rfl (r_mv rfl) ?_
    refine sl_v rfl (r_as rfl) ?_
    refine sl_nil ?_
    refine cw_ret ?_
    exact rs_1 (rt rfl) ⟨l1, rfl, h⟩

def VC_vocab_Vocab_Len (a0 : Option Addr) (R : Int → World → Prop) (w : World) : Prop :=
  (a0 = none → (R 0 w)) ∧ (¬ (a0 = none) → (∃ (b2 o3 : Nat), a0 = some ⟨b2, o3, none⟩ ∧ (∃ v4 : Option Nat, w.cell? ⟨b2, o3, none⟩ = some (.map v4) ∧ (∃ es6 : List (ByteArray × Int), Mp strV intV w v4 es6 ∧ (R ((es6.length : Nat) : Int) w)))))
set_option maxRecDepth 100000 in
theorem vc_vocab_Vocab_Len {a0 : Option Addr} {R : Int → World → Prop} {w : World} (h : VC_vocab_Vocab_Len a0 R w) : Calls PP n_vocab_Vocab_Len #[.pointer a0] w fun e w' => ∃ r0 : Int, e = .returned (.int .i64 r0) ∧ R r0 w' := by
  refine Calls.mono (calls_of_cw (n := 10) (rs := #[.tmp 2]) (args := [.pointer a0]) (R := fun v w' => ∃ r0 : Int, v = .int .i64 r0 ∧ R r0 w') Try.func19 rfl rfl (Nat.le_of_ble_eq_true rfl) rfl ?_) ?_
  case refine_2 => rintro e w' ⟨v, rfl, hr⟩; obtain ⟨r0, rfl, hr⟩ := hr; exact ⟨r0, rfl, hr⟩
  have hx : Ext w w := Chg.refl _
  unfold VC_vocab_Vocab_Len at h
  refine cw_seq ?_
  refine cw_region ?_
  refine sl_v rfl (r_as rfl) ?_
  refine sl_nil ?_
  refine cw_seq ?_
  refine cw_seq ?_
  refine cw_region ?_
  refine sl_v rfl (r_mv rfl) ?_
  refine sl_v rfl (p_eqn rfl rfl Try.underlying25) ?_
  refine sl_nil ?_
  refine bcases (decide (a0 = none)) (fun hb1 => ?_) (fun hb1 => ?_)
  · replace h := h.1 (of_decide_eq_true hb1)
    refine cw_ct rfl hb1 ?_
    refine cw_seq ?_
    refine cw_region ?_
    refine sl_v rfl (r_as rfl) ?_
    refine sl_nil ?_
    refine cw_ret ?_
    exact rs_1 (rt rfl) ⟨0, rfl, h⟩
  · replace h := h.2 (of_decide_eq_false hb1)
    refine cw_cf rfl hb1 ?_
    refine cw_skip ?_
    refine cw_seq ?_
    refine cw_region ?_
    refine sl_v rfl (r_mv rfl) ?_
    obtain ⟨b2, o3, rfl, h⟩ := h
    refine sl_v rfl (r_nc rfl) ?_
    refine sl_v rfl (fa_vocab_Vocab_0 (o' := o3) rfl rfl) ?_
    obtain ⟨v4, hc5, h⟩ := h
    refine sl_v rfl (ld_map_string_int rfl hc5) ?_
    obtain ⟨es6, hm7, h⟩ := h
    refine sl_v rfl (r_len_m rfl rfl Try.underlying83 hm7) ?_
    refine sl_v rfl (r_as rfl) ?_
    refine sl_nil ?_
    refine cw_ret ?_
    exact rs_1 (rt rfl) ⟨((es6.length : Nat) : Int), rfl, h⟩

def VC_ref01_Texts (a0 : Sl) (a1 : Sl) (R : Bool → World → Prop) (w : World) : Prop :=
  (((a0.n : Nat) : Int) ≠ ((a1.n : Nat) : Int) → (R false w)) ∧ (¬ (((a0.n : Nat) : Int) ≠ ((a1.n : Nat) : Int)) → (∃ (I3 : Int → World → Prop) (μ4 : Int → World → Nat), I3 0 w ∧ ∀ (l2 : Int) (w6 : World), I3 l2 w6 → ((l2 < ((a0.n : Nat) : Int) → (∃ k12 : Nat, l2 = ((k12 : Nat) : Int) ∧ k12 < a0.n ∧ (∃ (b14 o15 : Nat), a0.b = some ⟨b14, o15, none⟩ ∧ (∃ v17 : ByteArray, w6.cell? ⟨b14, o15 + k12 * 1, none⟩ = some (.string v17) ∧ (k12 < a1.n ∧ (∃ (b20 o21 : Nat), a1.b = some ⟨b20, o21, none⟩ ∧ (∃ v23 : ByteArray, w6.cell? ⟨b20, o21 + k12 * 1, none⟩ = some (.string v23) ∧ ((v17 ≠ v23 → (∀ w10 : World, Ext w6 w10 → (R false w10))) ∧ (¬ (v17 ≠ v23) → (∃ z27 : Int, z27 = IntKind.wrap .i64 (((k12 : Nat) : Int) + 1) ∧ (∀ w10 : World, Ext w6 w10 → (I3 z27 w10 ∧ μ4 z27 w10 < μ4 l2 w6)))))))))))) ∧ (¬ (l2 < ((a0.n : Nat) : Int)) → (R true w6)))))
set_option maxRecDepth 100000 in
theorem vc_ref01_Texts {a0 : Sl} {a1 : Sl} {R : Bool → World → Prop} {w : World} (h : VC_ref01_Texts a0 a1 R w) : Calls PP n_ref01_Texts #[a0.v, a1.v] w fun e w' => ∃ r0 : Bool, e = .returned (.bool r0) ∧ R r0 w' := by
  refine Calls.mono (calls_of_cw (n := 26) (rs := #[.tmp 4]) (args := [a0.v, a1.v]) (R := fun v w' => ∃ r0 : Bool, v = .bool r0 ∧ R r0 w') Try.func20 rfl rfl (Nat.le_of_ble_eq_true rfl) rfl ?_) ?_
  case refine_2 => rintro e w' ⟨v, rfl, hr⟩; obtain ⟨r0, rfl, hr⟩ := hr; exact ⟨r0, rfl, hr⟩
  have hx : Ext w w := Chg.refl _
  unfold VC_ref01_Texts at h
  refine cw_seq ?_
  refine cw_region ?_
  refine sl_v rfl (r_as rfl) ?_
  refine sl_nil ?_
  refine cw_seq ?_
  refine cw_seq ?_
  refine cw_region ?_
  refine sl_v rfl (r_mv rfl) ?_
  refine sl_v rfl (r_len_l (s := a0) rfl rfl Try.underlying37) ?_
  refine sl_v rfl (r_mv rfl) ?_
  refine sl_v rfl (r_len_l (s := a1) rfl rfl Try.underlying37) ?_
  refine sl_v rfl (r_neq rfl rfl) ?_
  refine sl_nil ?_
  refine bcases (decide (((a0.n : Nat) : Int) ≠ ((a1.n : Nat) : Int))) (fun hb1 => ?_) (fun hb1 => ?_)
  · replace h := h.1 (of_decide_eq_true hb1)
    refine cw_ct rfl hb1 ?_
    refine cw_seq ?_
    refine cw_region ?_
    refine sl_v rfl (r_as rfl) ?_
    refine sl_nil ?_
    refine cw_ret ?_
    exact rs_1 (rt rfl) ⟨false, rfl, h⟩
  · replace h := h.2 (of_decide_eq_false hb1)
    refine cw_cf rfl hb1 ?_
    refine cw_skip ?_
    refine cw_seq ?_
    refine cw_seq ?_
    refine cw_region ?_
    refine sl_v rfl (r_as rfl) ?_
    refine sl_nil ?_
    refine cw_block ?_
    obtain ⟨I3, μ4, hI5, h⟩ := h
    refine cw_loop (σ := Int) (fun s g => (upd (upd (upd g 0 (a0.v)) 1 (a1.v)) 5 (.int .i64 s))) (fun s w => I3 s w) (fun s w => μ4 s w) (0) _ (kp (kp (kp rfl rfl) rfl) rfl) hI5 ?_
    rintro l2 g7 w6 hi8
    replace h := h l2 w6 hi8
    have hx : Ext w6 w6 := Chg.refl _
    change CW PP _ _ _ (upd (upd (upd g7 0 (a0.v)) 1 (a1.v)) 5 (.int .i64 l2)) _
    refine cw_seq ?_
    refine cw_seq ?_
    refine cw_region ?_
    refine sl_v rfl (r_mv rfl) ?_
    refine sl_v rfl (r_mv rfl) ?_
    refine sl_v rfl (r_len_l (s := a0) rfl rfl Try.underlying37) ?_
    refine sl_v rfl (r_lss rfl rfl) ?_
    refine sl_nil ?_
    refine bcases (decide (l2 < ((a0.n : Nat) : Int))) (fun hb9 => ?_) (fun hb9 => ?_)
    · replace h := h.1 (of_decide_eq_true hb9)
      refine cw_ct rfl hb9 ?_
      refine cw_skip ?_
      refine cw_seq ?_
      refine cw_block ?_
      refine cw_seq ?_
      refine cw_still mo (by kernel_rfl) (fun w10 hd11 => ?_)
      replace hx := hx.tr (Ext.of_drew hd11)
      refine st_v rfl (r_mv rfl) ?_
      refine st_v rfl (r_mv rfl) ?_
      obtain ⟨k12, rfl, hk13, h⟩ := h
      obtain ⟨b14, o15, hb16, h⟩ := h
      refine st_v rfl (ia_sl_string (s := a0) (j := k12) (o' := o15 + k12 * 1) rfl rfl hk13 hb16 rfl) ?_
      obtain ⟨v17, hc18, h⟩ := h
      refine st_v rfl (ld_string rfl (hx.cell hc18)) ?_
      refine st_v rfl (r_mv rfl) ?_
      refine st_v rfl (r_mv rfl) ?_
      obtain ⟨hk19, h⟩ := h
      obtain ⟨b20, o21, hb22, h⟩ := h
      refine st_v rfl (ia_sl_string (s := a1) (j := k12) (o' := o21 + k12 * 1) rfl rfl hk19 hb22 rfl) ?_
      obtain ⟨v23, hc24, h⟩ := h
      refine st_v rfl (ld_string rfl (hx.cell hc24)) ?_
      refine st_v rfl (s_neq rfl rfl) ?_
      refine st_nil ?_
      refine bcases (decide (v17 ≠ v23)) (fun hb25 => ?_) (fun hb25 => ?_)
      · replace h := h.1 (of_decide_eq_true hb25)
        refine cw_ct rfl hb25 ?_
        refine cw_seq ?_
        refine cw_region ?_
        refine sl_v rfl (r_as rfl) ?_
        refine sl_nil ?_
        refine cw_ret ?_
        replace h := h _ hx
        replace hx : Ext w10 w10 := Chg.refl _
        exact rs_1 (rt rfl) ⟨false, rfl, h⟩
      · replace h := h.2 (of_decide_eq_false hb25)
        refine cw_cf rfl hb25 ?_
        refine cw_skip ?_
        refine cw_region ?_
        refine sl_v rfl (r_mv rfl) ?_
        obtain ⟨z27, hz27, h⟩ := h
        refine sl_v rfl (r_add rfl rfl hz27) ?_
        refine sl_v rfl (r_as rfl) ?_
        refine sl_nil ?_
        replace h := h _ hx
        replace hx : Ext w10 w10 := Chg.refl _
        exact ⟨(z27), _, (kp (kp (kp rfl rfl) rfl) rfl), h.1, h.2⟩
    · replace h := h.2 (of_decide_eq_false hb9)
      refine cw_cf rfl hb9 ?_
      refine cw_exit ?_
      refine cw_seq ?_
      refine cw_region ?_
      refine sl_v rfl (r_as rfl) ?_
      refine sl_nil ?_
      refine cw_ret ?_
      exact rs_1 (rt rfl) ⟨true, rfl, h⟩

def VC_vocab_Vocab_Longest (a0 : Option Addr) (a1 : ByteArray) (R : Sl → World → Prop) (w : World) : Prop :=
  (a0 = none → (R (⟨none, 0, 0⟩ : Sl) w)) ∧ (¬ (a0 = none) → (∃ (I4 : ByteArray → Sl → World → Prop) (μ5 : ByteArray → Sl → World → Nat), I4 a1 (⟨none, 0, 0⟩ : Sl) w ∧ ∀ (l2 : ByteArray) (l3 : Sl) (w7 : World), I4 l2 l3 w7 → ((l2 ≠ (⟨#[]⟩ : ByteArray) → (∃ (b11 o12 : Nat), a0 = some ⟨b11, o12, none⟩ ∧ (∃ v13 : Int, w7.cell? ⟨b11, o12 + 2, none⟩ = some (.int .i64 v13) ∧ (∃ (I16 : Int → World → Prop) (μ17 : Int → World → Nat), I16 (min ((l2.size : Nat) : Int) v13) w7 ∧ ∀ (l15 : Int) (w19 : World), I16 l15 w19 → (∃ k22 : Nat, l15 = ((k22 : Nat) : Int) ∧ ((0 ≤ k22 ∧ k22 ≤ l2.size) ∧ (Calls PP n_vocab_Vocab_Has #[.pointer (some ⟨b11, o12, none⟩), .string (l2.extract 0 k22)] w19 (fun e w25 => ∃ r28 : Bool, e = .returned (.bool r28) ∧ ((r28 = true → ((0 ≤ k22 ∧ k22 ≤ l2.size) ∧ (∃ xs39 : List Value, Own w25 t_string 1 l3 xs39 ∧ ((l3.n + 1) * 16 ≤ 140737488355328 ∧ l3.n + 1 ≤ maxLen) ∧ (∀ (s36 : Sl) (w35 : World), App w25 t_string 1 l3 xs39 1 [.string (l2.extract 0 k22)] s36 w35 → ((k22 ≤ l2.size ∧ l2.size ≤ l2.size) ∧ (I4 (l2.extract k22 l2.size) s36 w35 ∧ μ5 (l2.extract k22 l2.size) s36 w35 < μ5 l2 l3 w7)))))) ∧ (r28 = false → (∃ z43 : Int, z43 = IntKind.wrap .i64 (((k22 : Nat) : Int) - 1) ∧ (I16 z43 w25 ∧ μ17 z43 w25 < μ17 l15 w19)))))))))))) ∧ (¬ (l2 ≠ (⟨#[]⟩ : ByteArray)) → (R l3 w7)))))
set_option maxRecDepth 100000 in
theorem vc_vocab_Vocab_Longest {a0 : Option Addr} {a1 : ByteArray} {R : Sl → World → Prop} {w : World} (h : VC_vocab_Vocab_Longest a0 a1 R w) : Calls PP n_vocab_Vocab_Longest #[.pointer a0, .string a1] w fun e w' => ∃ r0 : Sl, e = .returned (r0.v) ∧ R r0 w' := by
  refine Calls.mono (calls_of_cw (n := 36) (rs := #[.tmp 4]) (args := [.pointer a0, .string a1]) (R := fun v w' => ∃ r0 : Sl, v = r0.v ∧ R r0 w') Try.func21 rfl rfl (Nat.le_of_ble_eq_true rfl) rfl ?_) ?_
  case refine_2 => rintro e w' ⟨v, rfl, hr⟩; obtain ⟨r0, rfl, hr⟩ := hr; exact ⟨r0, rfl, hr⟩
  have hx : Ext w w := Chg.refl _
  unfold VC_vocab_Vocab_Longest at h
  refine cw_seq ?_
  refine cw_region ?_
  refine sl_v rfl (r_as rfl) ?_
  refine sl_nil ?_
  refine cw_seq ?_
  refine cw_seq ?_
  refine cw_region ?_
  refine sl_v rfl (r_mv rfl) ?_
  refine sl_v rfl (p_eqn rfl rfl Try.underlying25) ?_
  refine sl_nil ?_
  refine bcases (decide (a0 = none)) (fun hb1 => ?_) (fun hb1 => ?_)
  · replace h := h.1 (of_decide_eq_true hb1)
    refine cw_ct rfl hb1 ?_
    refine cw_seq ?_
    refine cw_region ?_
    refine sl_v rfl (r_as rfl) ?_
    refine sl_nil ?_
    refine cw_ret ?_
    exact rs_1 (rt rfl) ⟨(⟨none, 0, 0⟩ : Sl), rfl, h⟩
  · replace h := h.2 (of_decide_eq_false hb1)
    refine cw_cf rfl hb1 ?_
    refine cw_skip ?_
    refine cw_seq ?_
    refine cw_region ?_
    refine sl_v rfl (r_as rfl) ?_
    refine sl_nil ?_
    refine cw_seq ?_
    refine cw_block ?_
    obtain ⟨I4, μ5, hI6, h⟩ := h
    refine cw_loop (σ := ByteArray × Sl) (fun s g => (upd (upd (upd g 0 (.pointer a0)) 1 (.string s.1)) 5 (s.2.v))) (fun s w => I4 s.1 s.2 w) (fun s w => μ5 s.1 s.2 w) (a1, (⟨none, 0, 0⟩ : Sl)) _ (kp (kp (kp rfl rfl) rfl) rfl) hI6 ?_
    rintro ⟨l2, l3⟩ g8 w7 hi9
    replace h := h l2 l3 w7 hi9
    have hx : Ext w7 w7 := Chg.refl _
    change CW PP _ _ _ (upd (upd (upd g8 0 (.pointer a0)) 1 (.string l2)) 5 (l3.v)) _
    refine cw_seq ?_
    refine cw_seq ?_
    refine cw_region ?_
    refine sl_v rfl (r_mv rfl) ?_
    refine sl_v rfl (s_neq rfl rfl) ?_
    refine sl_nil ?_
    refine bcases (decide (l2 ≠ (⟨#[]⟩ : ByteArray))) (fun hb10 => ?_) (fun hb10 => ?_)
    · replace h := h.1 (of_decide_eq_true hb10)
      refine cw_ct rfl hb10 ?_
      refine cw_skip ?_
      refine cw_block ?_
      refine cw_seq ?_
      refine cw_region ?_
      refine sl_v rfl (r_mv rfl) ?_
      refine sl_v rfl (r_len_s rfl rfl Try.underlying9) ?_
      refine sl_v rfl (r_mv rfl) ?_
      obtain ⟨b11, o12, rfl, h⟩ := h
      refine sl_v rfl (r_nc rfl) ?_
      refine sl_v rfl (fa_vocab_Vocab_2 (o' := o12 + 2) rfl rfl) ?_
      obtain ⟨v13, hc14, h⟩ := h
      refine sl_v rfl (ld_int rfl hc14) ?_
      refine sl_v rfl (r_min rfl rfl) ?_
      refine sl_v rfl (r_as rfl) ?_
      refine sl_nil ?_
      refine cw_seq ?_
      refine cw_block ?_
      obtain ⟨I16, μ17, hI18, h⟩ := h
      refine cw_loop (σ := Int) (fun s g => (upd (upd (upd (upd g 0 (.pointer (some ⟨b11, o12, none⟩))) 1 (.string l2)) 5 (l3.v)) 6 (.int .i64 s))) (fun s w => I16 s w) (fun s w => μ17 s w) (min ((l2.size : Nat) : Int) v13) _ (kp (kp (kp (kp rfl rfl) rfl) rfl) rfl) hI18 ?_
      rintro l15 g20 w19 hi21
      replace h := h l15 w19 hi21
      have hx : Ext w19 w19 := Chg.refl _
      change CW PP _ _ _ (upd (upd (upd (upd g20 0 (.pointer (some ⟨b11, o12, none⟩))) 1 (.string l2)) 5 (l3.v)) 6 (.int .i64 l15)) _
      refine cw_seq ?_
      refine cw_seq ?_
      refine cw_region ?_
      refine sl_v rfl (r_mv rfl) ?_
      refine sl_v rfl (r_mv rfl) ?_
      refine sl_v rfl (r_mv rfl) ?_
      obtain ⟨k22, rfl, h⟩ := h
      obtain ⟨hr23, h⟩ := h
      refine sl_v rfl (r_ss (s := l2) (l := 0) (h := k22) rfl Try.underlying9 rfl rfl (fun _ => rfl) (by intro h; cases h) hr23) ?_
      refine sl_op rfl (ok_call c_vocab_Vocab_Has rfl (Calls.mono h (fun e24 w25 hq26 => ?_)))
      clear h
      obtain ⟨r28, he27, h⟩ := hq26
      refine ⟨_, he27, ?_⟩
      replace hx : Ext w25 w25 := Chg.refl _
      refine sl_v rfl (r_not rfl) ?_
      refine sl_nil ?_
      refine bcases (r28) (fun hb29 => ?_) (fun hb29 => ?_)
      · replace h := h.1 hb29
        refine cw_cf rfl (nt hb29) ?_
        refine cw_exit ?_
        refine cw_seq ?_
        refine cw_region ?_
        refine sl_v rfl (r_mv rfl) ?_
        refine sl_v rfl (r_mv rfl) ?_
        refine sl_v rfl (r_mv rfl) ?_
        obtain ⟨hr30, h⟩ := h
        refine sl_v rfl (r_ss (s := l2) (l := 0) (h := k22) rfl Try.underlying9 rfl rfl (fun _ => rfl) (by intro h; cases h) hr30) ?_
        refine sl_op rfl (bs_sl_string (len := 1) (vs := [(0, .string (l2.extract 0 k22))]) (cs := #[.string (l2.extract 0 k22)]) (by decide) rfl rfl (fun b31 w32 hN33 => ?_))
        have hB34 := hN33.here
        replace hx := hx.tr hN33.ext
        obtain ⟨xs39, ho40, hb41, h⟩ := h
        refine sl_op rfl (ap_sl_string (s := l3) (xs := xs39) (m := 1) (news := [.string (l2.extract 0 k22)]) rfl rfl hx ho40 (.c (cell_blk hB34 rfl) .n) rfl rfl hb41 (fun s36 w35 ha37 hc38 => ?_))
        replace h := h s36 w35 ha37
        replace hx : Ext w35 w35 := Chg.refl _
        refine sl_v rfl (r_as rfl) ?_
        refine sl_nil ?_
        refine cw_region ?_
        refine sl_v rfl (r_mv rfl) ?_
        refine sl_v rfl (r_mv rfl) ?_
        obtain ⟨hr42, h⟩ := h
        refine sl_v rfl (r_ss (s := l2) (l := k22) (h := l2.size) rfl Try.underlying9 rfl rfl (by intro h; cases h) (fun _ => rfl) hr42) ?_
        refine sl_v rfl (r_as rfl) ?_
        refine sl_nil ?_
        exact ⟨(l2.extract k22 l2.size, s36), _, (kp (kp (kp rfl rfl) rfl) rfl), h.1, h.2⟩
      · replace h := h.2 hb29
        refine cw_ct rfl (nf hb29) ?_
        refine cw_skip ?_
        refine cw_block ?_
        refine cw_region ?_
        refine sl_v rfl (r_mv rfl) ?_
        obtain ⟨z43, hz43, h⟩ := h
        refine sl_v rfl (r_sub rfl rfl hz43) ?_
        refine sl_v rfl (r_as rfl) ?_
        refine sl_nil ?_
        exact ⟨(z43), _, (kp (kp (kp (kp rfl rfl) rfl) rfl) rfl), h.1, h.2⟩
    · replace h := h.2 (of_decide_eq_false hb10)
      refine cw_cf rfl hb10 ?_
      refine cw_exit ?_
      refine cw_seq ?_
      refine cw_region ?_
      refine sl_v rfl (r_mv rfl) ?_
      refine sl_v rfl (r_as rfl) ?_
      refine sl_nil ?_
      refine cw_ret ?_
      exact rs_1 (rt rfl) ⟨l3, rfl, h⟩

def VC_ref21_Longest (a0 : Sl) (a1 : ByteArray) (R : Sl → World → Prop) (w : World) : Prop :=
  ∃ (I3 : ByteArray → Sl → World → Prop) (μ4 : ByteArray → Sl → World → Nat), I3 a1 (⟨none, 0, 0⟩ : Sl) w ∧ ∀ (l1 : ByteArray) (l2 : Sl) (w6 : World), I3 l1 l2 w6 → (((0 : Int) < ((l1.size : Nat) : Int) → (∃ K11 : Int → World → Prop, (∀ (j10 : Int) (w13 : World), K11 j10 w13 → (∃ k33 : Nat, j10 = ((k33 : Nat) : Int) ∧ ((0 ≤ k33 ∧ k33 ≤ l1.size) ∧ (∃ xs43 : List Value, Own w13 t_string 1 l2 xs43 ∧ ((l2.n + 1) * 16 ≤ 140737488355328 ∧ l2.n + 1 ≤ maxLen) ∧ (∀ (s40 : Sl) (w39 : World), App w13 t_string 1 l2 xs43 1 [.string (l1.extract 0 k33)] s40 w39 → ((k33 ≤ l1.size ∧ l1.size ≤ l1.size) ∧ (I3 (l1.extract k33 l1.size) s40 w39 ∧ μ4 (l1.extract k33 l1.size) s40 w39 < μ4 l1 l2 w6))))))) ∧ (∃ (I17 : Int → World → Prop) (μ18 : Int → World → Nat), I17 ((l1.size : Nat) : Int) w6 ∧ ∀ (l16 : Int) (w20 : World), I17 l16 w20 → (((1 : Int) < l16 → (∃ k24 : Nat, l16 = ((k24 : Nat) : Int) ∧ ((0 ≤ k24 ∧ k24 ≤ l1.size) ∧ (Calls PP n_ref21_Has #[a0.v, .string (l1.extract 0 k24)] w20 (fun e w27 => ∃ r30 : Bool, e = .returned (.bool r30) ∧ ((r30 = true → (K11 ((k24 : Nat) : Int) w27)) ∧ (r30 = false → (∃ z32 : Int, z32 = IntKind.wrap .i64 (((k24 : Nat) : Int) - 1) ∧ (I17 z32 w27 ∧ μ18 z32 w27 < μ18 l16 w20))))))))) ∧ (¬ ((1 : Int) < l16) → (K11 l16 w20)))))) ∧ (¬ ((0 : Int) < ((l1.size : Nat) : Int)) → (R l2 w6)))
set_option maxRecDepth 100000 in
theorem vc_ref21_Longest {a0 : Sl} {a1 : ByteArray} {R : Sl → World → Prop} {w : World} (h : VC_ref21_Longest a0 a1 R w) : Calls PP n_ref21_Longest #[a0.v, .string a1] w fun e w' => ∃ r0 : Sl, e = .returned (r0.v) ∧ R r0 w' := by
  refine Calls.mono (calls_of_cw (n := 34) (rs := #[.tmp 4]) (args := [a0.v, .string a1]) (R := fun v w' => ∃ r0 : Sl, v = r0.v ∧ R r0 w') Try.func22 rfl rfl (Nat.le_of_ble_eq_true rfl) rfl ?_) ?_
  case refine_2 => rintro e w' ⟨v, rfl, hr⟩; obtain ⟨r0, rfl, hr⟩ := hr; exact ⟨r0, rfl, hr⟩
  have hx : Ext w w := Chg.refl _
  unfold VC_ref21_Longest at h
  refine cw_seq ?_
  refine cw_region ?_
  refine sl_v rfl (r_as rfl) ?_
  refine sl_nil ?_
  refine cw_seq ?_
  refine cw_region ?_
  refine sl_v rfl (r_as rfl) ?_
  refine sl_nil ?_
  refine cw_seq ?_
  refine cw_block ?_
  obtain ⟨I3, μ4, hI5, h⟩ := h
  refine cw_loop (σ := ByteArray × Sl) (fun s g => (upd (upd (upd g 0 (a0.v)) 1 (.string s.1)) 5 (s.2.v))) (fun s w => I3 s.1 s.2 w) (fun s w => μ4 s.1 s.2 w) (a1, (⟨none, 0, 0⟩ : Sl)) _ (kp (kp (kp rfl rfl) rfl) rfl) hI5 ?_
  rintro ⟨l1, l2⟩ g7 w6 hi8
  replace h := h l1 l2 w6 hi8
  have hx : Ext w6 w6 := Chg.refl _
  change CW PP _ _ _ (upd (upd (upd g7 0 (a0.v)) 1 (.string l1)) 5 (l2.v)) _
  refine cw_seq ?_
  refine cw_seq ?_
  refine cw_region ?_
  refine sl_v rfl (r_mv rfl) ?_
  refine sl_v rfl (r_len_s rfl rfl Try.underlying9) ?_
  refine sl_v rfl (r_gtr rfl rfl) ?_
  refine sl_nil ?_
  refine bcases (decide ((0 : Int) < ((l1.size : Nat) : Int))) (fun hb9 => ?_) (fun hb9 => ?_)
  · replace h := h.1 (of_decide_eq_true hb9)
    refine cw_ct rfl hb9 ?_
    refine cw_skip ?_
    refine cw_block ?_
    refine cw_seq ?_
    refine cw_region ?_
    refine sl_v rfl (r_mv rfl) ?_
    refine sl_v rfl (r_len_s rfl rfl Try.underlying9) ?_
    refine sl_v rfl (r_as rfl) ?_
    refine sl_nil ?_
    obtain ⟨K11, hK12, h⟩ := h
    refine cw_mid (fun f w => ∃ (g : Env) (j10 : Int), f = (upd (upd (upd (upd g 0 (a0.v)) 1 (.string l1)) 5 (l2.v)) 6 (.int .i64 j10)) ∧ K11 j10 w) ?_ (fun _ w13 hM15 => ?_)
    ·
      refine cw_block ?_
      obtain ⟨I17, μ18, hI19, h⟩ := h
      refine cw_loop (σ := Int) (fun s g => (upd (upd (upd (upd g 0 (a0.v)) 1 (.string l1)) 5 (l2.v)) 6 (.int .i64 s))) (fun s w => I17 s w) (fun s w => μ18 s w) (((l1.size : Nat) : Int)) _ (kp (kp (kp (kp rfl rfl) rfl) rfl) rfl) hI19 ?_
      rintro l16 g21 w20 hi22
      replace h := h l16 w20 hi22
      have hx : Ext w20 w20 := Chg.refl _
      change CW PP _ _ _ (upd (upd (upd (upd g21 0 (a0.v)) 1 (.string l1)) 5 (l2.v)) 6 (.int .i64 l16)) _
      refine cw_seq ?_
      refine cw_seq ?_
      refine cw_region ?_
      refine sl_v rfl (r_mv rfl) ?_
      refine sl_v rfl (r_gtr rfl rfl) ?_
      refine sl_v rfl (r_mv rfl) ?_
      refine bcases (decide ((1 : Int) < l16)) (fun hb23 => ?_) (fun hb23 => ?_)
      · replace h := h.1 (of_decide_eq_true hb23)
        refine sl_vg rfl rfl rfl hb23 (r_mv rfl) ?_
        refine sl_vg rfl rfl rfl hb23 (r_mv rfl) ?_
        refine sl_vg rfl rfl rfl hb23 (r_mv rfl) ?_
        obtain ⟨k24, rfl, h⟩ := h
        obtain ⟨hr25, h⟩ := h
        refine sl_vg rfl rfl rfl hb23 (r_ss (s := l1) (l := 0) (h := k24) rfl Try.underlying9 rfl rfl (fun _ => rfl) (by intro h; cases h) hr25) ?_
        refine sl_g rfl rfl rfl hb23 (ok_call c_ref21_Has rfl (Calls.mono h (fun e26 w27 hq28 => ?_)))
        clear h
        obtain ⟨r30, he29, h⟩ := hq28
        refine ⟨_, he29, ?_⟩
        replace hx : Ext w27 w27 := Chg.refl _
        refine sl_vg rfl rfl rfl hb23 (r_not rfl) ?_
        refine sl_v rfl (r_pt rfl hb23 rfl) ?_
        refine sl_nil ?_
        refine bcases (r30) (fun hb31 => ?_) (fun hb31 => ?_)
        · replace h := h.1 hb31
          refine cw_cf rfl (nt hb31) ?_
          refine cw_exit ?_
          exact ⟨_, ((k24 : Nat) : Int), (kp (kp (kp (kp rfl rfl) rfl) rfl) rfl), h⟩
        · replace h := h.2 hb31
          refine cw_ct rfl (nf hb31) ?_
          refine cw_skip ?_
          refine cw_block ?_
          refine cw_region ?_
          refine sl_v rfl (r_mv rfl) ?_
          obtain ⟨z32, hz32, h⟩ := h
          refine sl_v rfl (r_sub rfl rfl hz32) ?_
          refine sl_v rfl (r_as rfl) ?_
          refine sl_nil ?_
          exact ⟨(z32), _, (kp (kp (kp (kp rfl rfl) rfl) rfl) rfl), h.1, h.2⟩
      · replace h := h.2 (of_decide_eq_false hb23)
        refine sl_no rfl rfl rfl hb23 ?_
        refine sl_no rfl rfl rfl hb23 ?_
        refine sl_no rfl rfl rfl hb23 ?_
        refine sl_no rfl rfl rfl hb23 ?_
        refine sl_no rfl rfl rfl hb23 ?_
        refine sl_no rfl rfl rfl hb23 ?_
        refine sl_v rfl (r_pf rfl hb23 rfl) ?_
        refine sl_nil ?_
        refine cw_cf rfl rfl ?_
        refine cw_exit ?_
        exact ⟨_, l16, (kp (kp (kp (kp rfl rfl) rfl) rfl) rfl), h⟩
    ·
      obtain ⟨g14, j10, rfl, hM15⟩ := hM15
      replace h := hK12 j10 w13 hM15
      have hx : Ext w13 w13 := Chg.refl _
      refine cw_seq ?_
      refine cw_region ?_
      refine sl_v rfl (r_mv rfl) ?_
      refine sl_v rfl (r_mv rfl) ?_
      refine sl_v rfl (r_mv rfl) ?_
      obtain ⟨k33, rfl, h⟩ := h
      obtain ⟨hr34, h⟩ := h
      refine sl_v rfl (r_ss (s := l1) (l := 0) (h := k33) rfl Try.underlying9 rfl rfl (fun _ => rfl) (by intro h; cases h) hr34) ?_
      refine sl_op rfl (bs_sl_string (len := 1) (vs := [(0, .string (l1.extract 0 k33))]) (cs := #[.string (l1.extract 0 k33)]) (by decide) rfl rfl (fun b35 w36 hN37 => ?_))
      have hB38 := hN37.here
      replace hx := hx.tr hN37.ext
      obtain ⟨xs43, ho44, hb45, h⟩ := h
      refine sl_op rfl (ap_sl_string (s := l2) (xs := xs43) (m := 1) (news := [.string (l1.extract 0 k33)]) rfl rfl hx ho44 (.c (cell_blk hB38 rfl) .n) rfl rfl hb45 (fun s40 w39 ha41 hc42 => ?_))
      replace h := h s40 w39 ha41
      replace hx : Ext w39 w39 := Chg.refl _
      refine sl_v rfl (r_as rfl) ?_
      refine sl_nil ?_
      refine cw_region ?_
      refine sl_v rfl (r_mv rfl) ?_
      refine sl_v rfl (r_mv rfl) ?_
      obtain ⟨hr46, h⟩ := h
      refine sl_v rfl (r_ss (s := l1) (l := k33) (h := l1.size) rfl Try.underlying9 rfl rfl (by intro h; cases h) (fun _ => rfl) hr46) ?_
      refine sl_v rfl (r_as rfl) ?_
      refine sl_nil ?_
      exact ⟨(l1.extract k33 l1.size, s40), _, (kp (kp (kp rfl rfl) rfl) rfl), h.1, h.2⟩
  · replace h := h.2 (of_decide_eq_false hb9)
    refine cw_cf rfl hb9 ?_
    refine cw_exit ?_
    refine cw_seq ?_
    refine cw_region ?_
    refine sl_v rfl (r_mv rfl) ?_
    refine sl_v rfl (r_as rfl) ?_
    refine sl_nil ?_
    refine cw_ret ?_
    exact rs_1 (rt rfl) ⟨l2, rfl, h⟩

def VC_vocab_Vocab_Texts (a0 : Option Addr) (R : Value → World → Prop) (w : World) : Prop :=
  (a0 = none → (R (.func (.func 52) #[] #[]) w)) ∧ (¬ (a0 = none) → (∃ (b2 o3 : Nat), a0 = some ⟨b2, o3, none⟩ ∧ (∃ v4 : Option Nat, w.cell? ⟨b2, o3, none⟩ = some (.map v4) ∧ (Calls PP n_maps_Keys_map_string_int_string_int #[.map v4] w (fun e w7 => ∃ r10 : Value, e = .returned (r10) ∧ (Calls PP n_slices_Sorted_string #[r10] w7 (fun e w12 => ∃ r15 : Sl, e = .returned (r15.v) ∧ (Calls PP n_slices_Values_string_string #[r15.v] w12 (fun e w17 => ∃ r20 : Value, e = .returned (r20) ∧ (R r20 w17))))))))))
set_option maxRecDepth 100000 in
theorem vc_vocab_Vocab_Texts {a0 : Option Addr} {R : Value → World → Prop} {w : World} (h : VC_vocab_Vocab_Texts a0 R w) : Calls PP n_vocab_Vocab_Texts #[.pointer a0] w fun e w' => ∃ r0 : Value, e = .returned (r0) ∧ R r0 w' := by
  refine Calls.mono (calls_of_cw (n := 12) (rs := #[.tmp 2]) (args := [.pointer a0]) (R := fun v w' => ∃ r0 : Value, v = r0 ∧ R r0 w') Try.func24 rfl rfl (Nat.le_of_ble_eq_true rfl) rfl ?_) ?_
  case refine_2 => rintro e w' ⟨v, rfl, r0, h0, hr⟩; exact ⟨r0, by rw [h0], hr⟩
  have hx : Ext w w := Chg.refl _
  unfold VC_vocab_Vocab_Texts at h
  refine cw_seq ?_
  refine cw_region ?_
  refine sl_v rfl (r_as rfl) ?_
  refine sl_nil ?_
  refine cw_seq ?_
  refine cw_seq ?_
  refine cw_region ?_
  refine sl_v rfl (r_mv rfl) ?_
  refine sl_v rfl (p_eqn rfl rfl Try.underlying25) ?_
  refine sl_nil ?_
  refine bcases (decide (a0 = none)) (fun hb1 => ?_) (fun hb1 => ?_)
  · replace h := h.1 (of_decide_eq_true hb1)
    refine cw_ct rfl hb1 ?_
    refine cw_seq ?_
    refine cw_region ?_
    refine sl_v rfl (r_as rfl) ?_
    refine sl_nil ?_
    refine cw_ret ?_
    exact rs_1 (rt rfl) ⟨.func (.func 52) #[] #[], rfl, h⟩
  · replace h := h.2 (of_decide_eq_false hb1)
    refine cw_cf rfl hb1 ?_
    refine cw_skip ?_
    refine cw_seq ?_
    refine cw_region ?_
    refine sl_v rfl (r_mv rfl) ?_
    obtain ⟨b2, o3, rfl, h⟩ := h
    refine sl_v rfl (r_nc rfl) ?_
    refine sl_v rfl (fa_vocab_Vocab_0 (o' := o3) rfl rfl) ?_
    obtain ⟨v4, hc5, h⟩ := h
    refine sl_v rfl (ld_map_string_int rfl hc5) ?_
    refine sl_op rfl (ok_call c_maps_Keys_map_string_int_string_int rfl (Calls.mono h (fun e6 w7 hq8 => ?_)))
    clear h
    obtain ⟨r10, he9, h⟩ := hq8
    refine ⟨_, he9, ?_⟩
    replace hx : Ext w7 w7 := Chg.refl _
    refine sl_op rfl (ok_call c_slices_Sorted_string rfl (Calls.mono h (fun e11 w12 hq13 => ?_)))
    clear h
    obtain ⟨r15, he14, h⟩ := hq13
    refine ⟨_, he14, ?_⟩
    replace hx : Ext w12 w12 := Chg.refl _
    refine sl_op rfl (ok_call c_slices_Values_string_string rfl (Calls.mono h (fun e16 w17 hq18 => ?_)))
    clear h
    obtain ⟨r20, he19, h⟩ := hq18
    refine ⟨_, he19, ?_⟩
    replace hx : Ext w17 w17 := Chg.refl _
    refine sl_v rfl (r_as rfl) ?_
    refine sl_nil ?_
    refine cw_ret ?_
    exact rs_1 (rt rfl) ⟨r20, rfl, h⟩

def VC_law08_awake (R : Bool → World → Prop) (w : World) : Prop :=
  ∀ (b1 : Nat) (w2 : World), New w b1 (.cells #[.string (⟨#[97, 98]⟩ : ByteArray), .int .i64 3, .string (⟨#[98]⟩ : ByteArray), .int .i64 2] t_api_Word (0, 0)) w2 → (Calls PP n_table_Weight #[.slice (some ⟨b1, 0, none⟩) 2 2] w2 (fun e w5 => ∃ r8_0 : Int, ∃ r8_1 : Bool, e = .returned (.tuple #[.int .i64 r8_0, .bool r8_1]) ∧ ((r8_1 = true → ((r8_0 = (3 : Int) → (∀ (b11 : Nat) (w12 : World), New w5 b11 (.cells #[.string (⟨#[97, 98]⟩ : ByteArray), .int .i64 3, .string (⟨#[98]⟩ : ByteArray), .int .i64 2] t_api_Word (0, 0)) w12 → (Calls PP n_table_Positions #[.slice (some ⟨b11, 0, none⟩) 2 2] w12 (fun e w15 => ∃ r18 : Int, e = .returned (.int .i64 r18) ∧ (R (decide (r18 = (3 : Int))) w15))))) ∧ (¬ (r8_0 = (3 : Int)) → (R false w5)))) ∧ (r8_1 = false → (R false w5)))))
set_option maxRecDepth 100000 in
theorem vc_law08_awake {R : Bool → World → Prop} {w : World} (h : VC_law08_awake R w) : Calls PP n_law08_awake #[] w fun e w' => ∃ r0 : Bool, e = .returned (.bool r0) ∧ R r0 w' := by
  refine Calls.mono (calls_of_cw (n := 22) (rs := #[.tmp 0]) (args := []) (R := fun v w' => ∃ r0 : Bool, v = .bool r0 ∧ R r0 w') Try.func25 rfl rfl (Nat.le_of_ble_eq_true rfl) rfl ?_) ?_
  case refine_2 => rintro e w' ⟨v, rfl, hr⟩; obtain ⟨r0, rfl, hr⟩ := hr; exact ⟨r0, rfl, hr⟩
  have hx : Ext w w := Chg.refl _
  unfold VC_law08_awake at h
  refine cw_seq ?_
  refine cw_region ?_
  refine sl_v rfl (r_as rfl) ?_
  refine sl_nil ?_
  refine cw_seq ?_
  refine cw_region ?_
  refine sl_v rfl (bd_api_Word (vs := [(0, .string (⟨#[97, 98]⟩ : ByteArray)), (1, .int .i64 3)]) (cs := #[.string (⟨#[97, 98]⟩ : ByteArray), .int .i64 3]) rfl rfl) ?_
  refine sl_v rfl (bd_api_Word (vs := [(0, .string (⟨#[98]⟩ : ByteArray)), (1, .int .i64 2)]) (cs := #[.string (⟨#[98]⟩ : ByteArray), .int .i64 2]) rfl rfl) ?_
  refine sl_op rfl (bs_sl_api_Word (len := 2) (vs := [(0, .agg #[.string (⟨#[97, 98]⟩ : ByteArray), .int .i64 3]), (1, .agg #[.string (⟨#[98]⟩ : ByteArray), .int .i64 2])]) (cs := #[.string (⟨#[97, 98]⟩ : ByteArray), .int .i64 3, .string (⟨#[98]⟩ : ByteArray), .int .i64 2]) (by decide) rfl rfl (fun b1 w2 hN3 => ?_))
  replace h := h b1 w2 hN3
  replace hx : Ext w2 w2 := Chg.refl _
  refine sl_op rfl (ok_call c_table_Weight rfl (Calls.mono h (fun e4 w5 hq6 => ?_)))
  clear h
  obtain ⟨r8_0, r8_1, he7, h⟩ := hq6
  refine ⟨_, he7, ?_⟩
  replace hx : Ext w5 w5 := Chg.refl _
  refine sl_v rfl (r_mv rfl) ?_
  refine sl_v rfl (r_ex rfl rfl) ?_
  refine sl_v rfl (r_ex rfl rfl) ?_
  refine sl_v rfl (r_as rfl) ?_
  refine sl_v rfl (r_as rfl) ?_
  refine sl_nil ?_
  refine cw_seq ?_
  refine cw_region ?_
  refine sl_v rfl (r_mv rfl) ?_
  refine sl_v rfl (r_mv rfl) ?_
  refine bcases (r8_1) (fun hb9 => ?_) (fun hb9 => ?_)
  · replace h := h.1 hb9
    refine sl_vg rfl rfl rfl hb9 (r_mv rfl) ?_
    refine sl_vg rfl rfl rfl hb9 (r_eql rfl rfl) ?_
    refine sl_v rfl (r_pt rfl hb9 rfl) ?_
    refine sl_v rfl (r_mv rfl) ?_
    refine bcases (decide (r8_0 = (3 : Int))) (fun hb10 => ?_) (fun hb10 => ?_)
    · replace h := h.1 (of_decide_eq_true hb10)
      refine sl_vg rfl rfl rfl hb10 (bd_api_Word (vs := [(0, .string (⟨#[97, 98]⟩ : ByteArray)), (1, .int .i64 3)]) (cs := #[.string (⟨#[97, 98]⟩ : ByteArray), .int .i64 3]) rfl rfl) ?_
      refine sl_vg rfl rfl rfl hb10 (bd_api_Word (vs := [(0, .string (⟨#[98]⟩ : ByteArray)), (1, .int .i64 2)]) (cs := #[.string (⟨#[98]⟩ : ByteArray), .int .i64 2]) rfl rfl) ?_
      refine sl_g rfl rfl rfl hb10 (bs_sl_api_Word (len := 2) (vs := [(0, .agg #[.string (⟨#[97, 98]⟩ : ByteArray), .int .i64 3]), (1, .agg #[.string (⟨#[98]⟩ : ByteArray), .int .i64 2])]) (cs := #[.string (⟨#[97, 98]⟩ : ByteArray), .int .i64 3, .string (⟨#[98]⟩ : ByteArray), .int .i64 2]) (by decide) rfl rfl (fun b11 w12 hN13 => ?_))
      replace h := h b11 w12 hN13
      replace hx : Ext w12 w12 := Chg.refl _
      refine sl_g rfl rfl rfl hb10 (ok_call c_table_Positions rfl (Calls.mono h (fun e14 w15 hq16 => ?_)))
      clear h
      obtain ⟨r18, he17, h⟩ := hq16
      refine ⟨_, he17, ?_⟩
      replace hx : Ext w15 w15 := Chg.refl _
      refine sl_vg rfl rfl rfl hb10 (r_eql rfl rfl) ?_
      refine sl_v rfl (r_pt rfl hb10 rfl) ?_
      refine sl_v rfl (r_as rfl) ?_
      refine sl_nil ?_
      refine cw_ret ?_
      exact rs_1 (rt rfl) ⟨decide (r18 = (3 : Int)), rfl, h⟩
    · replace h := h.2 (of_decide_eq_false hb10)
      refine sl_no rfl rfl rfl hb10 ?_
      refine sl_no rfl rfl rfl hb10 ?_
      refine sl_no rfl rfl rfl hb10 ?_
      refine sl_no rfl rfl rfl hb10 ?_
      refine sl_no rfl rfl rfl hb10 ?_
      refine sl_v rfl (r_pf rfl hb10 rfl) ?_
      refine sl_v rfl (r_as rfl) ?_
      refine sl_nil ?_
      refine cw_ret ?_
      exact rs_1 (rt rfl) ⟨false, rfl, h⟩
  · replace h := h.2 hb9
    refine sl_no rfl rfl rfl hb9 ?_
    refine sl_no rfl rfl rfl hb9 ?_
    refine sl_v rfl (r_pf rfl hb9 rfl) ?_
    refine sl_v rfl (r_mv rfl) ?_
    refine sl_no rfl rfl rfl rfl ?_
    refine sl_no rfl rfl rfl rfl ?_
    refine sl_no rfl rfl rfl rfl ?_
    refine sl_no rfl rfl rfl rfl ?_
    refine sl_no rfl rfl rfl rfl ?_
    refine sl_v rfl (r_pf rfl rfl rfl) ?_
    refine sl_v rfl (r_as rfl) ?_
    refine sl_nil ?_
    refine cw_ret ?_
    exact rs_1 (rt rfl) ⟨false, rfl, h⟩

def VC_table_Params (a0_0 : Int) (a0_1 : Int) (a0_2 : Int) (R : Int → World → Prop) (w : World) : Prop :=
  ∀ (b1 : Nat) (w2 : World), Priv w b1 w2 → ((a0_0 < (0 : Int) → (R 2 w2)) ∧ (¬ (a0_0 < (0 : Int)) → (((1048576 : Int) < a0_0 → (R 2 w2)) ∧ (¬ ((1048576 : Int) < a0_0) → ((a0_1 < (1 : Int) → (R 2 w2)) ∧ (¬ (a0_1 < (1 : Int)) → ((a0_2 < (1 : Int) → (R 2 w2)) ∧ (¬ (a0_2 < (1 : Int)) → (((65536 : Int) < a0_2 → (R 2 w2)) ∧ (¬ ((65536 : Int) < a0_2) → (R 0 w2)))))))))))
set_option maxRecDepth 100000 in
theorem vc_table_Params {a0_0 : Int} {a0_1 : Int} {a0_2 : Int} {R : Int → World → Prop} {w : World} (h : VC_table_Params a0_0 a0_1 a0_2 R w) : Calls PP n_table_Params #[.agg #[.int .i64 a0_0, .int .i64 a0_1, .int .i64 a0_2]] w fun e w' => ∃ r0 : Int, e = .returned (.int .i64 r0) ∧ R r0 w' := by
  refine Calls.mono (calls_of_cw (n := 26) (rs := #[.tmp 2]) (args := [.agg #[.int .i64 a0_0, .int .i64 a0_1, .int .i64 a0_2]]) (R := fun v w' => ∃ r0 : Int, v = .int .i64 r0 ∧ R r0 w') Try.func26 rfl rfl (Nat.le_of_ble_eq_true rfl) rfl ?_) ?_
  case refine_2 => rintro e w' ⟨v, rfl, hr⟩; obtain ⟨r0, rfl, hr⟩ := hr; exact ⟨r0, rfl, hr⟩
  have hx : Ext w w := Chg.refl _
  unfold VC_table_Params at h
  refine cw_seq ?_
  refine cw_region ?_
  refine sl_op rfl (bx_api_Params rfl rfl (fun b1 w2 hN3 => ?_))
  have hB4 := hN3.here
  replace h := h b1 w2 ⟨hx.tr hN3.ext, Nat.le_trans hx.size hN3.fresh, lt_of_blk hN3.here⟩
  replace hx : Ext w2 w2 := Chg.refl _
  refine sl_v rfl (r_as rfl) ?_
  refine sl_nil ?_
  refine cw_seq ?_
  refine cw_seq ?_
  refine cw_region ?_
  refine sl_v rfl (fa_api_Params_0 (o' := 0) rfl rfl) ?_
  refine sl_v rfl (ld_int rfl (cell_blk hB4 rfl)) ?_
  refine sl_v rfl (r_lss rfl rfl) ?_
  refine sl_v rfl (r_mv rfl) ?_
  refine bcases (decide (a0_0 < (0 : Int))) (fun hb5 => ?_) (fun hb5 => ?_)
  · replace h := h.1 (of_decide_eq_true hb5)
    refine sl_no rfl rfl rfl hb5 ?_
    refine sl_no rfl rfl rfl hb5 ?_
    refine sl_no rfl rfl rfl hb5 ?_
    refine sl_v rfl (r_pt rfl hb5 rfl) ?_
    refine sl_v rfl (r_mv rfl) ?_
    refine sl_no rfl rfl rfl rfl ?_
    refine sl_no rfl rfl rfl rfl ?_
    refine sl_no rfl rfl rfl rfl ?_
    refine sl_v rfl (r_pt rfl rfl rfl) ?_
    refine sl_v rfl (r_mv rfl) ?_
    refine sl_no rfl rfl rfl rfl ?_
    refine sl_no rfl rfl rfl rfl ?_
    refine sl_no rfl rfl rfl rfl ?_
    refine sl_v rfl (r_pt rfl rfl rfl) ?_
    refine sl_v rfl (r_mv rfl) ?_
    refine sl_no rfl rfl rfl rfl ?_
    refine sl_no rfl rfl rfl rfl ?_
    refine sl_no rfl rfl rfl rfl ?_
    refine sl_v rfl (r_pt rfl rfl rfl) ?_
    refine sl_nil ?_
    refine cw_ct rfl rfl ?_
    refine cw_seq ?_
    refine cw_region ?_
    refine sl_v rfl (r_as rfl) ?_
    refine sl_nil ?_
    refine cw_ret ?_
    exact rs_1 (rt rfl) ⟨2, rfl, h⟩
  · replace h := h.2 (of_decide_eq_false hb5)
    refine sl_vg rfl rfl rfl hb5 (fa_api_Params_0 (o' := 0) rfl rfl) ?_
    refine sl_vg rfl rfl rfl hb5 (ld_int rfl (cell_blk hB4 rfl)) ?_
    refine sl_vg rfl rfl rfl hb5 (r_gtr rfl rfl) ?_
    refine sl_v rfl (r_pf rfl hb5 rfl) ?_
    refine sl_v rfl (r_mv rfl) ?_
    refine bcases (decide ((1048576 : Int) < a0_0)) (fun hb6 => ?_) (fun hb6 => ?_)
    · replace h := h.1 (of_decide_eq_true hb6)
      refine sl_no rfl rfl rfl hb6 ?_
      refine sl_no rfl rfl rfl hb6 ?_
      refine sl_no rfl rfl rfl hb6 ?_
      refine sl_v rfl (r_pt rfl hb6 rfl) ?_
      refine sl_v rfl (r_mv rfl) ?_
      refine sl_no rfl rfl rfl rfl ?_
      refine sl_no rfl rfl rfl rfl ?_
      refine sl_no rfl rfl rfl rfl ?_
      refine sl_v rfl (r_pt rfl rfl rfl) ?_
      refine sl_v rfl (r_mv rfl) ?_
      refine sl_no rfl rfl rfl rfl ?_
      refine sl_no rfl rfl rfl rfl ?_
      refine sl_no rfl rfl rfl rfl ?_
      refine sl_v rfl (r_pt rfl rfl rfl) ?_
      refine sl_nil ?_
      refine cw_ct rfl rfl ?_
      refine cw_seq ?_
      refine cw_region ?_
      refine sl_v rfl (r_as rfl) ?_
      refine sl_nil ?_
      refine cw_ret ?_
      exact rs_1 (rt rfl) ⟨2, rfl, h⟩
    · replace h := h.2 (of_decide_eq_false hb6)
      refine sl_vg rfl rfl rfl hb6 (fa_api_Params_1 (o' := 1) rfl rfl) ?_
      refine sl_vg rfl rfl rfl hb6 (ld_int rfl (cell_blk hB4 rfl)) ?_
      refine sl_vg rfl rfl rfl hb6 (r_lss rfl rfl) ?_
      refine sl_v rfl (r_pf rfl hb6 rfl) ?_
      refine sl_v rfl (r_mv rfl) ?_
      refine bcases (decide (a0_1 < (1 : Int))) (fun hb7 => ?_) (fun hb7 => ?_)
      · replace h := h.1 (of_decide_eq_true hb7)
        refine sl_no rfl rfl rfl hb7 ?_
        refine sl_no rfl rfl rfl hb7 ?_
        refine sl_no rfl rfl rfl hb7 ?_
        refine sl_v rfl (r_pt rfl hb7 rfl) ?_
        refine sl_v rfl (r_mv rfl) ?_
        refine sl_no rfl rfl rfl rfl ?_
        refine sl_no rfl rfl rfl rfl ?_
        refine sl_no rfl rfl rfl rfl ?_
        refine sl_v rfl (r_pt rfl rfl rfl) ?_
        refine sl_nil ?_
        refine cw_ct rfl rfl ?_
        refine cw_seq ?_
        refine cw_region ?_
        refine sl_v rfl (r_as rfl) ?_
        refine sl_nil ?_
        refine cw_ret ?_
        exact rs_1 (rt rfl) ⟨2, rfl, h⟩
      · replace h := h.2 (of_decide_eq_false hb7)
        refine sl_vg rfl rfl rfl hb7 (fa_api_Params_2 (o' := 2) rfl rfl) ?_
        refine sl_vg rfl rfl rfl hb7 (ld_int rfl (cell_blk hB4 rfl)) ?_
        refine sl_vg rfl rfl rfl hb7 (r_lss rfl rfl) ?_
        refine sl_v rfl (r_pf rfl hb7 rfl) ?_
        refine sl_v rfl (r_mv rfl) ?_
        refine bcases (decide (a0_2 < (1 : Int))) (fun hb8 => ?_) (fun hb8 => ?_)
        · replace h := h.1 (of_decide_eq_true hb8)
          refine sl_no rfl rfl rfl hb8 ?_
          refine sl_no rfl rfl rfl hb8 ?_
          refine sl_no rfl rfl rfl hb8 ?_
          refine sl_v rfl (r_pt rfl hb8 rfl) ?_
          refine sl_nil ?_
          refine cw_ct rfl rfl ?_
          refine cw_seq ?_
          refine cw_region ?_
          refine sl_v rfl (r_as rfl) ?_
          refine sl_nil ?_
          refine cw_ret ?_
          exact rs_1 (rt rfl) ⟨2, rfl, h⟩
        · replace h := h.2 (of_decide_eq_false hb8)
          refine sl_vg rfl rfl rfl hb8 (fa_api_Params_2 (o' := 2) rfl rfl) ?_
          refine sl_vg rfl rfl rfl hb8 (ld_int rfl (cell_blk hB4 rfl)) ?_
          refine sl_vg rfl rfl rfl hb8 (r_gtr rfl rfl) ?_
          refine sl_v rfl (r_pf rfl hb8 rfl) ?_
          refine sl_nil ?_
          refine bcases (decide ((65536 : Int) < a0_2)) (fun hb9 => ?_) (fun hb9 => ?_)
          · replace h := h.1 (of_decide_eq_true hb9)
            refine cw_ct rfl hb9 ?_
            refine cw_seq ?_
            refine cw_region ?_
            refine sl_v rfl (r_as rfl) ?_
            refine sl_nil ?_
            refine cw_ret ?_
            exact rs_1 (rt rfl) ⟨2, rfl, h⟩
          · replace h := h.2 (of_decide_eq_false hb9)
            refine cw_cf rfl hb9 ?_
            refine cw_skip ?_
            refine cw_seq ?_
            refine cw_region ?_
            refine sl_v rfl (r_as rfl) ?_
            refine sl_nil ?_
            refine cw_ret ?_
            exact rs_1 (rt rfl) ⟨0, rfl, h⟩

def VC_ref08_Params (a0_0 : Int) (a0_1 : Int) (a0_2 : Int) (R : Int → World → Prop) (w : World) : Prop :=
  ∀ (b1 : Nat) (w2 : World), Priv w b1 w2 → ((a0_0 < (0 : Int) → (R 2 w2)) ∧ (¬ (a0_0 < (0 : Int)) → (((1048576 : Int) < a0_0 → (R 2 w2)) ∧ (¬ ((1048576 : Int) < a0_0) → ((a0_1 < (1 : Int) → (R 2 w2)) ∧ (¬ (a0_1 < (1 : Int)) → ((a0_2 < (1 : Int) → (R 2 w2)) ∧ (¬ (a0_2 < (1 : Int)) → (((65536 : Int) < a0_2 → (R 2 w2)) ∧ (¬ ((65536 : Int) < a0_2) → (R 0 w2)))))))))))
set_option maxRecDepth 100000 in
theorem vc_ref08_Params {a0_0 : Int} {a0_1 : Int} {a0_2 : Int} {R : Int → World → Prop} {w : World} (h : VC_ref08_Params a0_0 a0_1 a0_2 R w) : Calls PP n_ref08_Params #[.agg #[.int .i64 a0_0, .int .i64 a0_1, .int .i64 a0_2]] w fun e w' => ∃ r0 : Int, e = .returned (.int .i64 r0) ∧ R r0 w' := by
  refine Calls.mono (calls_of_cw (n := 26) (rs := #[.tmp 2]) (args := [.agg #[.int .i64 a0_0, .int .i64 a0_1, .int .i64 a0_2]]) (R := fun v w' => ∃ r0 : Int, v = .int .i64 r0 ∧ R r0 w') Try.func27 rfl rfl (Nat.le_of_ble_eq_true rfl) rfl ?_) ?_
  case refine_2 => rintro e w' ⟨v, rfl, hr⟩; obtain ⟨r0, rfl, hr⟩ := hr; exact ⟨r0, rfl, hr⟩
  have hx : Ext w w := Chg.refl _
  unfold VC_ref08_Params at h
  refine cw_seq ?_
  refine cw_region ?_
  refine sl_op rfl (bx_api_Params rfl rfl (fun b1 w2 hN3 => ?_))
  have hB4 := hN3.here
  replace h := h b1 w2 ⟨hx.tr hN3.ext, Nat.le_trans hx.size hN3.fresh, lt_of_blk hN3.here⟩
  replace hx : Ext w2 w2 := Chg.refl _
  refine sl_v rfl (r_as rfl) ?_
  refine sl_nil ?_
  refine cw_seq ?_
  refine cw_seq ?_
  refine cw_region ?_
  refine sl_v rfl (fa_api_Params_0 (o' := 0) rfl rfl) ?_
  refine sl_v rfl (ld_int rfl (cell_blk hB4 rfl)) ?_
  refine sl_v rfl (r_lss rfl rfl) ?_
  refine sl_v rfl (r_mv rfl) ?_
  refine bcases (decide (a0_0 < (0 : Int))) (fun hb5 => ?_) (fun hb5 => ?_)
  · replace h := h.1 (of_decide_eq_true hb5)
    refine sl_no rfl rfl rfl hb5 ?_
    refine sl_no rfl rfl rfl hb5 ?_
    refine sl_no rfl rfl rfl hb5 ?_
    refine sl_v rfl (r_pt rfl hb5 rfl) ?_
    refine sl_v rfl (r_mv rfl) ?_
    refine sl_no rfl rfl rfl rfl ?_
    refine sl_no rfl rfl rfl rfl ?_
    refine sl_no rfl rfl rfl rfl ?_
    refine sl_v rfl (r_pt rfl rfl rfl) ?_
    refine sl_v rfl (r_mv rfl) ?_
    refine sl_no rfl rfl rfl rfl ?_
    refine sl_no rfl rfl rfl rfl ?_
    refine sl_no rfl rfl rfl rfl ?_
    refine sl_v rfl (r_pt rfl rfl rfl) ?_
    refine sl_v rfl (r_mv rfl) ?_
    refine sl_no rfl rfl rfl rfl ?_
    refine sl_no rfl rfl rfl rfl ?_
    refine sl_no rfl rfl rfl rfl ?_
    refine sl_v rfl (r_pt rfl rfl rfl) ?_
    refine sl_nil ?_
    refine cw_ct rfl rfl ?_
    refine cw_seq ?_
    refine cw_region ?_
    refine sl_v rfl (r_as rfl) ?_
    refine sl_nil ?_
    refine cw_ret ?_
    exact rs_1 (rt rfl) ⟨2, rfl, h⟩
  · replace h := h.2 (of_decide_eq_false hb5)
    refine sl_vg rfl rfl rfl hb5 (fa_api_Params_0 (o' := 0) rfl rfl) ?_
    refine sl_vg rfl rfl rfl hb5 (ld_int rfl (cell_blk hB4 rfl)) ?_
    refine sl_vg rfl rfl rfl hb5 (r_gtr rfl rfl) ?_
    refine sl_v rfl (r_pf rfl hb5 rfl) ?_
    refine sl_v rfl (r_mv rfl) ?_
    refine bcases (decide ((1048576 : Int) < a0_0)) (fun hb6 => ?_) (fun hb6 => ?_)
    · replace h := h.1 (of_decide_eq_true hb6)
      refine sl_no rfl rfl rfl hb6 ?_
      refine sl_no rfl rfl rfl hb6 ?_
      refine sl_no rfl rfl rfl hb6 ?_
      refine sl_v rfl (r_pt rfl hb6 rfl) ?_
      refine sl_v rfl (r_mv rfl) ?_
      refine sl_no rfl rfl rfl rfl ?_
      refine sl_no rfl rfl rfl rfl ?_
      refine sl_no rfl rfl rfl rfl ?_
      refine sl_v rfl (r_pt rfl rfl rfl) ?_
      refine sl_v rfl (r_mv rfl) ?_
      refine sl_no rfl rfl rfl rfl ?_
      refine sl_no rfl rfl rfl rfl ?_
      refine sl_no rfl rfl rfl rfl ?_
      refine sl_v rfl (r_pt rfl rfl rfl) ?_
      refine sl_nil ?_
      refine cw_ct rfl rfl ?_
      refine cw_seq ?_
      refine cw_region ?_
      refine sl_v rfl (r_as rfl) ?_
      refine sl_nil ?_
      refine cw_ret ?_
      exact rs_1 (rt rfl) ⟨2, rfl, h⟩
    · replace h := h.2 (of_decide_eq_false hb6)
      refine sl_vg rfl rfl rfl hb6 (fa_api_Params_1 (o' := 1) rfl rfl) ?_
      refine sl_vg rfl rfl rfl hb6 (ld_int rfl (cell_blk hB4 rfl)) ?_
      refine sl_vg rfl rfl rfl hb6 (r_lss rfl rfl) ?_
      refine sl_v rfl (r_pf rfl hb6 rfl) ?_
      refine sl_v rfl (r_mv rfl) ?_
      refine bcases (decide (a0_1 < (1 : Int))) (fun hb7 => ?_) (fun hb7 => ?_)
      · replace h := h.1 (of_decide_eq_true hb7)
        refine sl_no rfl rfl rfl hb7 ?_
        refine sl_no rfl rfl rfl hb7 ?_
        refine sl_no rfl rfl rfl hb7 ?_
        refine sl_v rfl (r_pt rfl hb7 rfl) ?_
        refine sl_v rfl (r_mv rfl) ?_
        refine sl_no rfl rfl rfl rfl ?_
        refine sl_no rfl rfl rfl rfl ?_
        refine sl_no rfl rfl rfl rfl ?_
        refine sl_v rfl (r_pt rfl rfl rfl) ?_
        refine sl_nil ?_
        refine cw_ct rfl rfl ?_
        refine cw_seq ?_
        refine cw_region ?_
        refine sl_v rfl (r_as rfl) ?_
        refine sl_nil ?_
        refine cw_ret ?_
        exact rs_1 (rt rfl) ⟨2, rfl, h⟩
      · replace h := h.2 (of_decide_eq_false hb7)
        refine sl_vg rfl rfl rfl hb7 (fa_api_Params_2 (o' := 2) rfl rfl) ?_
        refine sl_vg rfl rfl rfl hb7 (ld_int rfl (cell_blk hB4 rfl)) ?_
        refine sl_vg rfl rfl rfl hb7 (r_lss rfl rfl) ?_
        refine sl_v rfl (r_pf rfl hb7 rfl) ?_
        refine sl_v rfl (r_mv rfl) ?_
        refine bcases (decide (a0_2 < (1 : Int))) (fun hb8 => ?_) (fun hb8 => ?_)
        · replace h := h.1 (of_decide_eq_true hb8)
          refine sl_no rfl rfl rfl hb8 ?_
          refine sl_no rfl rfl rfl hb8 ?_
          refine sl_no rfl rfl rfl hb8 ?_
          refine sl_v rfl (r_pt rfl hb8 rfl) ?_
          refine sl_nil ?_
          refine cw_ct rfl rfl ?_
          refine cw_seq ?_
          refine cw_region ?_
          refine sl_v rfl (r_as rfl) ?_
          refine sl_nil ?_
          refine cw_ret ?_
          exact rs_1 (rt rfl) ⟨2, rfl, h⟩
        · replace h := h.2 (of_decide_eq_false hb8)
          refine sl_vg rfl rfl rfl hb8 (fa_api_Params_2 (o' := 2) rfl rfl) ?_
          refine sl_vg rfl rfl rfl hb8 (ld_int rfl (cell_blk hB4 rfl)) ?_
          refine sl_vg rfl rfl rfl hb8 (r_gtr rfl rfl) ?_
          refine sl_v rfl (r_pf rfl hb8 rfl) ?_
          refine sl_nil ?_
          refine bcases (decide ((65536 : Int) < a0_2)) (fun hb9 => ?_) (fun hb9 => ?_)
          · replace h := h.1 (of_decide_eq_true hb9)
            refine cw_ct rfl hb9 ?_
            refine cw_seq ?_
            refine cw_region ?_
            refine sl_v rfl (r_as rfl) ?_
            refine sl_nil ?_
            refine cw_ret ?_
            exact rs_1 (rt rfl) ⟨2, rfl, h⟩
          · replace h := h.2 (of_decide_eq_false hb9)
            refine cw_cf rfl hb9 ?_
            refine cw_skip ?_
            refine cw_seq ?_
            refine cw_region ?_
            refine sl_v rfl (r_as rfl) ?_
            refine sl_nil ?_
            refine cw_ret ?_
            exact rs_1 (rt rfl) ⟨0, rfl, h⟩

def VC_table_Of (a0 : Sl) (R : Sl → Int → World → Prop) (w : World) : Prop :=
  Calls PP n_freq_New #[] w (fun e w2 => ∃ r5 : Option Addr, e = .returned (.pointer r5) ∧ (Calls PP n_freq_Counter_AddAll #[.pointer r5, a0.v] w2 (fun e w7 => ∃ r10 : Int, e = .returned (.int .i64 r10) ∧ ((r10 ≠ (0 : Int) → (R (⟨none, 0, 0⟩ : Sl) r10 w7)) ∧ (¬ (r10 ≠ (0 : Int)) → (Calls PP n_freq_Counter_Freeze #[.pointer r5] w7 (fun e w13 => ∃ r16 : Sl, e = .returned (r16.v) ∧ (R r16 0 w13))))))))
set_option maxRecDepth 100000 in
theorem vc_table_Of {a0 : Sl} {R : Sl → Int → World → Prop} {w : World} (h : VC_table_Of a0 R w) : Calls PP n_table_Of #[a0.v] w fun e w' => ∃ r0 : Sl, ∃ r1 : Int, e = .returned (.tuple #[r0.v, .int .i64 r1]) ∧ R r0 r1 w' := by
  refine Calls.mono (calls_of_cw (n := 15) (rs := #[.tmp 2, .tmp 3]) (args := [a0.v]) (R := fun v w' => ∃ r0 : Sl, ∃ r1 : Int, v = .tuple #[r0.v, .int .i64 r1] ∧ R r0 r1 w') Try.func28 rfl rfl (Nat.le_of_ble_eq_true rfl) rfl ?_) ?_
  case refine_2 => rintro e w' ⟨v, rfl, hr⟩; obtain ⟨r0, r1, rfl, hr⟩ := hr; exact ⟨r0, r1, rfl, hr⟩
  have hx : Ext w w := Chg.refl _
  unfold VC_table_Of at h
  refine cw_seq ?_
  refine cw_region ?_
  refine sl_v rfl (r_as rfl) ?_
  refine sl_v rfl (r_as rfl) ?_
  refine sl_nil ?_
  refine cw_seq ?_
  refine cw_region ?_
  refine sl_op rfl (ok_call c_freq_New rfl (Calls.mono h (fun e1 w2 hq3 => ?_)))
  clear h
  obtain ⟨r5, he4, h⟩ := hq3
  refine ⟨_, he4, ?_⟩
  replace hx : Ext w2 w2 := Chg.refl _
  refine sl_v rfl (r_as rfl) ?_
  refine sl_nil ?_
  refine cw_seq ?_
  refine cw_seq ?_
  refine cw_region ?_
  refine sl_v rfl (r_mv rfl) ?_
  refine sl_v rfl (r_mv rfl) ?_
  refine sl_op rfl (ok_call c_freq_Counter_AddAll rfl (Calls.mono h (fun e6 w7 hq8 => ?_)))
  clear h
  obtain ⟨r10, he9, h⟩ := hq8
  refine ⟨_, he9, ?_⟩
  replace hx : Ext w7 w7 := Chg.refl _
  refine sl_v rfl (r_as rfl) ?_
  refine sl_nil ?_
  refine cw_seq ?_
  refine cw_region ?_
  refine sl_v rfl (r_mv rfl) ?_
  refine sl_v rfl (r_neq rfl rfl) ?_
  refine sl_nil ?_
  refine bcases (decide (r10 ≠ (0 : Int))) (fun hb11 => ?_) (fun hb11 => ?_)
  · replace h := h.1 (of_decide_eq_true hb11)
    refine cw_ct rfl hb11 ?_
    refine cw_seq ?_
    refine cw_region ?_
    refine sl_v rfl (r_mv rfl) ?_
    refine sl_v rfl (r_as rfl) ?_
    refine sl_v rfl (r_as rfl) ?_
    refine sl_nil ?_
    refine cw_ret ?_
    exact rs_2 (rt rfl) (rt rfl) ⟨(⟨none, 0, 0⟩ : Sl), r10, rfl, h⟩
  · replace h := h.2 (of_decide_eq_false hb11)
    refine cw_cf rfl hb11 ?_
    refine cw_skip ?_
    refine cw_seq ?_
    refine cw_region ?_
    refine sl_v rfl (r_mv rfl) ?_
    refine sl_op rfl (ok_call c_freq_Counter_Freeze rfl (Calls.mono h (fun e12 w13 hq14 => ?_)))
    clear h
    obtain ⟨r16, he15, h⟩ := hq14
    refine ⟨_, he15, ?_⟩
    replace hx : Ext w13 w13 := Chg.refl _
    refine sl_v rfl (r_as rfl) ?_
    refine sl_v rfl (r_as rfl) ?_
    refine sl_nil ?_
    refine cw_ret ?_
    exact rs_2 (rt rfl) (rt rfl) ⟨r16, 0, rfl, h⟩

def VC_table_Check (a0 : Sl) (R : Int → Int → World → Prop) (w : World) : Prop :=
  ∃ (I3 : ByteArray → Int → World → Prop) (μ4 : ByteArray → Int → World → Nat), I3 (⟨#[]⟩ : ByteArray) 0 w ∧ ∀ (l1 : ByteArray) (l2 : Int) (w6 : World), I3 l1 l2 w6 → ((l2 < ((a0.n : Nat) : Int) → (∃ k10 : Nat, l2 = ((k10 : Nat) : Int) ∧ k10 < a0.n ∧ (∃ (b12 o13 : Nat), a0.b = some ⟨b12, o13, none⟩ ∧ (∃ v15_0 : ByteArray, ∃ v15_1 : Int, Cells w6 b12 (o13 + k10 * 2) [.string v15_0, .int .i64 v15_1] ∧ (∀ (b17 : Nat) (w18 : World), Priv w6 b17 w18 → (∀ w21 : World, Chg (fun b => b = b17) w18 w21 → (Calls PP n_table_wrong #[.string l1, .agg #[.string v15_0, .int .i64 v15_1]] w21 (fun e w24 => ∃ r27 : Int, e = .returned (.int .i64 r27) ∧ w24.heap[b17]? = w21.heap[b17]? ∧ ((r27 ≠ (0 : Int) → (R ((k10 : Nat) : Int) r27 w24)) ∧ (¬ (r27 ≠ (0 : Int)) → (∃ z30 : Int, z30 = IntKind.wrap .i64 (((k10 : Nat) : Int) + 1) ∧ (I3 v15_0 z30 w24 ∧ μ4 v15_0 z30 w24 < μ4 l1 l2 w6)))))))))))) ∧ (¬ (l2 < ((a0.n : Nat) : Int)) → (Calls PP n_table_Weight #[a0.v] w6 (fun e w32 => ∃ r35_0 : Int, ∃ r35_1 : Bool, e = .returned (.tuple #[.int .i64 r35_0, .bool r35_1]) ∧ ((r35_1 = true → (R (-1) 0 w32)) ∧ (r35_1 = false → (R ((a0.n : Nat) : Int) 5 w32)))))))
set_option maxRecDepth 100000 in
theorem vc_table_Check {a0 : Sl} {R : Int → Int → World → Prop} {w : World} (h : VC_table_Check a0 R w) : Calls PP n_table_Check #[a0.v] w fun e w' => ∃ r0 : Int, ∃ r1 : Int, e = .returned (.tuple #[.int .i64 r0, .int .i64 r1]) ∧ R r0 r1 w' := by
  refine Calls.mono (calls_of_cw (n := 36) (rs := #[.tmp 2, .tmp 3]) (args := [a0.v]) (R := fun v w' => ∃ r0 : Int, ∃ r1 : Int, v = .tuple #[.int .i64 r0, .int .i64 r1] ∧ R r0 r1 w') Try.func29 rfl rfl (Nat.le_of_ble_eq_true rfl) rfl ?_) ?_
  case refine_2 => rintro e w' ⟨v, rfl, hr⟩; obtain ⟨r0, r1, rfl, hr⟩ := hr; exact ⟨r0, r1, rfl, hr⟩
  have hx : Ext w w := Chg.refl _
  unfold VC_table_Check at h
  refine cw_seq ?_
  refine cw_region ?_
  refine sl_v rfl (r_as rfl) ?_
  refine sl_v rfl (r_as rfl) ?_
  refine sl_nil ?_
  refine cw_seq ?_
  refine cw_region ?_
  refine sl_v rfl (r_as rfl) ?_
  refine sl_nil ?_
  refine cw_seq ?_
  refine cw_seq ?_
  refine cw_region ?_
  refine sl_v rfl (r_mv rfl) ?_
  refine sl_v rfl (r_len_l (s := a0) rfl rfl Try.underlying50) ?_
  refine sl_v rfl (r_mv rfl) ?_
  refine sl_nil ?_
  refine cw_block ?_
  obtain ⟨I3, μ4, hI5, h⟩ := h
  refine cw_loop (σ := ByteArray × Int) (fun s g => (upd (upd (upd (upd (upd g 0 (a0.v)) 4 (.string s.1)) 10 (a0.v)) 11 (.int .i64 ((a0.n : Nat) : Int))) 12 (.int .i64 s.2))) (fun s w => I3 s.1 s.2 w) (fun s w => μ4 s.1 s.2 w) ((⟨#[]⟩ : ByteArray), 0) _ (kp (kp (kp (kp (kp rfl rfl) rfl) rfl) rfl) rfl) hI5 ?_
  rintro ⟨l1, l2⟩ g7 w6 hi8
  replace h := h l1 l2 w6 hi8
  have hx : Ext w6 w6 := Chg.refl _
  change CW PP _ _ _ (upd (upd (upd (upd (upd g7 0 (a0.v)) 4 (.string l1)) 10 (a0.v)) 11 (.int .i64 ((a0.n : Nat) : Int))) 12 (.int .i64 l2)) _
  refine cw_seq ?_
  refine cw_region ?_
  refine sl_v rfl (r_lss rfl rfl) ?_
  refine sl_nil ?_
  refine cw_seq ?_
  refine bcases (decide (l2 < ((a0.n : Nat) : Int))) (fun hb9 => ?_) (fun hb9 => ?_)
  · replace h := h.1 (of_decide_eq_true hb9)
    refine cw_ct rfl hb9 ?_
    refine cw_skip ?_
    refine cw_seq ?_
    refine cw_block ?_
    refine cw_seq ?_
    refine cw_region ?_
    refine sl_v rfl (r_mv rfl) ?_
    obtain ⟨k10, rfl, hk11, h⟩ := h
    obtain ⟨b12, o13, hb14, h⟩ := h
    refine sl_v rfl (ia_sl_api_Word (s := a0) (j := k10) (o' := o13 + k10 * 2) rfl rfl hk11 hb14 rfl) ?_
    obtain ⟨v15_0, v15_1, hc16, h⟩ := h
    refine sl_v rfl (lda_api_Word rfl rfl hc16) ?_
    refine sl_op rfl (al_api_Word rfl (fun b17 w18 hN19 => ?_))
    have hB20 := hN19.here
    replace h := h b17 w18 ⟨hx.tr hN19.ext, Nat.le_trans hx.size hN19.fresh, lt_of_blk hN19.here⟩
    replace hx : Ext w18 w18 := Chg.refl _
    refine sl_v rfl (r_as rfl) ?_
    refine sl_op rfl (st_api_Word (vs := [.string v15_0, .int .i64 v15_1]) rfl rfl rfl rfl rfl ⟨_, _, hB20, Nat.le_of_ble_eq_true rfl⟩ (fun w21 hw22 => ?_))
    have hc_ := sto_chg hw22
    replace hB20 : w21.heap[b17]? = some (.cells #[.string v15_0, .int .i64 v15_1] t_api_Word (0, 0)) := sto_blk hw22 hB20
    replace h := h w21 (Chg.pre hx hc_)
    replace hx : Ext w21 w21 := Chg.refl _
    clear hc_
    refine sl_nil ?_
    refine cw_seq ?_
    refine cw_seq ?_
    refine cw_region ?_
    refine sl_v rfl (r_mv rfl) ?_
    refine sl_v rfl (lda_api_Word (vs := [.string v15_0, .int .i64 v15_1]) rfl rfl (.c (cell_blk hB20 rfl) (.c (cell_blk hB20 rfl) .n))) ?_
    refine sl_op rfl (ok_call c_table_wrong rfl (Calls.mono h (fun e23 w24 hq25 => ?_)))
    clear h
    obtain ⟨r27, he26, hk28, h⟩ := hq25
    refine ⟨_, he26, ?_⟩
    replace hB20 := hk28.trans hB20
    replace hx : Ext w24 w24 := Chg.refl _
    refine sl_v rfl (r_as rfl) ?_
    refine sl_nil ?_
    refine cw_seq ?_
    refine cw_region ?_
    refine sl_v rfl (r_mv rfl) ?_
    refine sl_v rfl (r_neq rfl rfl) ?_
    refine sl_nil ?_
    refine bcases (decide (r27 ≠ (0 : Int))) (fun hb29 => ?_) (fun hb29 => ?_)
    · replace h := h.1 (of_decide_eq_true hb29)
      refine cw_ct rfl hb29 ?_
      refine cw_seq ?_
      refine cw_region ?_
      refine sl_v rfl (r_mv rfl) ?_
      refine sl_v rfl (r_mv rfl) ?_
      refine sl_v rfl (r_as rfl) ?_
      refine sl_v rfl (r_as rfl) ?_
      refine sl_nil ?_
      refine cw_ret ?_
      exact rs_2 (rt rfl) (rt rfl) ⟨((k10 : Nat) : Int), r27, rfl, h⟩
    · replace h := h.2 (of_decide_eq_false hb29)
      refine cw_cf rfl hb29 ?_
      refine cw_skip ?_
      refine cw_region ?_
      refine sl_v rfl (fa_api_Word_0 (o' := 0) rfl rfl) ?_
      refine sl_v rfl (ld_string rfl (cell_blk hB20 rfl)) ?_
      refine sl_v rfl (r_as rfl) ?_
      refine sl_nil ?_
      refine cw_region ?_
      obtain ⟨z30, hz30, h⟩ := h
      refine sl_v rfl (r_add rfl rfl hz30) ?_
      refine sl_v rfl (r_mv rfl) ?_
      refine sl_nil ?_
      exact ⟨(v15_0, z30), _, (kp (kp (kp (kp (kp rfl rfl) rfl) rfl) rfl) rfl), h.1, h.2⟩
  · replace h := h.2 (of_decide_eq_false hb9)
    refine cw_cf rfl hb9 ?_
    refine cw_exit ?_
    refine cw_seq ?_
    refine cw_seq ?_
    refine cw_region ?_
    refine sl_v rfl (r_mv rfl) ?_
    refine sl_op rfl (ok_call c_table_Weight rfl (Calls.mono h (fun e31 w32 hq33 => ?_)))
    clear h
    obtain ⟨r35_0, r35_1, he34, h⟩ := hq33
    refine ⟨_, he34, ?_⟩
    replace hx : Ext w32 w32 := Chg.refl _
    refine sl_v rfl (r_mv rfl) ?_
    refine sl_v rfl (r_ex rfl rfl) ?_
    refine sl_v rfl (r_ex rfl rfl) ?_
    refine sl_v rfl (r_as rfl) ?_
    refine sl_v rfl (r_as rfl) ?_
    refine sl_nil ?_
    refine cw_seq ?_
    refine cw_region ?_
    refine sl_v rfl (r_mv rfl) ?_
    refine sl_v rfl (r_not rfl) ?_
    refine sl_nil ?_
    refine bcases (r35_1) (fun hb36 => ?_) (fun hb36 => ?_)
    · replace h := h.1 hb36
      refine cw_cf rfl (nt hb36) ?_
      refine cw_skip ?_
      refine cw_seq ?_
      refine cw_region ?_
      refine sl_v rfl (r_as rfl) ?_
      refine sl_v rfl (r_as rfl) ?_
      refine sl_nil ?_
      refine cw_ret ?_
      exact rs_2 (rt rfl) (rt rfl) ⟨(-1), 0, rfl, h⟩
    · replace h := h.2 hb36
      refine cw_ct rfl (nf hb36) ?_
      refine cw_seq ?_
      refine cw_region ?_
      refine sl_v rfl (r_mv rfl) ?_
      refine sl_v rfl (r_len_l (s := a0) rfl rfl Try.underlying50) ?_
      refine sl_v rfl (r_as rfl) ?_
      refine sl_v rfl (r_as rfl) ?_
      refine sl_nil ?_
      refine cw_ret ?_
      exact rs_2 (rt rfl) (rt rfl) ⟨((a0.n : Nat) : Int), 5, rfl, h⟩

def VC_ref07_Same (a0 : Sl) (a1 : Sl) (R : Bool → World → Prop) (w : World) : Prop :=
  (((a0.n : Nat) : Int) ≠ ((a1.n : Nat) : Int) → (R false w)) ∧ (¬ (((a0.n : Nat) : Int) ≠ ((a1.n : Nat) : Int)) → (∃ (I3 : Int → World → Prop) (μ4 : Int → World → Nat), I3 0 w ∧ ∀ (l2 : Int) (w6 : World), I3 l2 w6 → ((l2 < ((a0.n : Nat) : Int) → (∃ k12 : Nat, l2 = ((k12 : Nat) : Int) ∧ k12 < a0.n ∧ (∃ (b14 o15 : Nat), a0.b = some ⟨b14, o15, none⟩ ∧ (∃ v17_0 : ByteArray, ∃ v17_1 : Int, Cells w6 b14 (o15 + k12 * 2) [.string v17_0, .int .i64 v17_1] ∧ (k12 < a1.n ∧ (∃ (b20 o21 : Nat), a1.b = some ⟨b20, o21, none⟩ ∧ (∃ v23_0 : ByteArray, ∃ v23_1 : Int, Cells w6 b20 (o21 + k12 * 2) [.string v23_0, .int .i64 v23_1] ∧ (((v17_0 = v23_0) ∧ (v17_1 = v23_1) → (∃ z26 : Int, z26 = IntKind.wrap .i64 (((k12 : Nat) : Int) + 1) ∧ (∀ w10 : World, Ext w6 w10 → (I3 z26 w10 ∧ μ4 z26 w10 < μ4 l2 w6)))) ∧ (¬ ((v17_0 = v23_0) ∧ (v17_1 = v23_1)) → (∀ w10 : World, Ext w6 w10 → (R false w10))))))))))) ∧ (¬ (l2 < ((a0.n : Nat) : Int)) → (R true w6)))))
set_option maxRecDepth 100000 in
theorem vc_ref07_Same {a0 : Sl} {a1 : Sl} {R : Bool → World → Prop} {w : World} (h : VC_ref07_Same a0 a1 R w) : Calls PP n_ref07_Same #[a0.v, a1.v] w fun e w' => ∃ r0 : Bool, e = .returned (.bool r0) ∧ R r0 w' := by
  refine Calls.mono (calls_of_cw (n := 26) (rs := #[.tmp 4]) (args := [a0.v, a1.v]) (R := fun v w' => ∃ r0 : Bool, v = .bool r0 ∧ R r0 w') Try.func30 rfl rfl (Nat.le_of_ble_eq_true rfl) rfl ?_) ?_
  case refine_2 => rintro e w' ⟨v, rfl, hr⟩; obtain ⟨r0, rfl, hr⟩ := hr; exact ⟨r0, rfl, hr⟩
  have hx : Ext w w := Chg.refl _
  unfold VC_ref07_Same at h
  refine cw_seq ?_
  refine cw_region ?_
  refine sl_v rfl (r_as rfl) ?_
  refine sl_nil ?_
  refine cw_seq ?_
  refine cw_seq ?_
  refine cw_region ?_
  refine sl_v rfl (r_mv rfl) ?_
  refine sl_v rfl (r_len_l (s := a0) rfl rfl Try.underlying50) ?_
  refine sl_v rfl (r_mv rfl) ?_
  refine sl_v rfl (r_len_l (s := a1) rfl rfl Try.underlying50) ?_
  refine sl_v rfl (r_neq rfl rfl) ?_
  refine sl_nil ?_
  refine bcases (decide (((a0.n : Nat) : Int) ≠ ((a1.n : Nat) : Int))) (fun hb1 => ?_) (fun hb1 => ?_)
  · replace h := h.1 (of_decide_eq_true hb1)
    refine cw_ct rfl hb1 ?_
    refine cw_seq ?_
    refine cw_region ?_
    refine sl_v rfl (r_as rfl) ?_
    refine sl_nil ?_
    refine cw_ret ?_
    exact rs_1 (rt rfl) ⟨false, rfl, h⟩
  · replace h := h.2 (of_decide_eq_false hb1)
    refine cw_cf rfl hb1 ?_
    refine cw_skip ?_
    refine cw_seq ?_
    refine cw_seq ?_
    refine cw_region ?_
    refine sl_v rfl (r_as rfl) ?_
    refine sl_nil ?_
    refine cw_block ?_
    obtain ⟨I3, μ4, hI5, h⟩ := h
    refine cw_loop (σ := Int) (fun s g => (upd (upd (upd g 0 (a0.v)) 1 (a1.v)) 5 (.int .i64 s))) (fun s w => I3 s w) (fun s w => μ4 s w) (0) _ (kp (kp (kp rfl rfl) rfl) rfl) hI5 ?_
    rintro l2 g7 w6 hi8
    replace h := h l2 w6 hi8
    have hx : Ext w6 w6 := Chg.refl _
    change CW PP _ _ _ (upd (upd (upd g7 0 (a0.v)) 1 (a1.v)) 5 (.int .i64 l2)) _
    refine cw_seq ?_
    refine cw_seq ?_
    refine cw_region ?_
    refine sl_v rfl (r_mv rfl) ?_
    refine sl_v rfl (r_mv rfl) ?_
    refine sl_v rfl (r_len_l (s := a0) rfl rfl Try.underlying50) ?_
    refine sl_v rfl (r_lss rfl rfl) ?_
    refine sl_nil ?_
    refine bcases (decide (l2 < ((a0.n : Nat) : Int))) (fun hb9 => ?_) (fun hb9 => ?_)
    · replace h := h.1 (of_decide_eq_true hb9)
      refine cw_ct rfl hb9 ?_
      refine cw_skip ?_
      refine cw_seq ?_
      refine cw_block ?_
      refine cw_seq ?_
      refine cw_still mo (by kernel_rfl) (fun w10 hd11 => ?_)
      replace hx := hx.tr (Ext.of_drew hd11)
      refine st_v rfl (r_mv rfl) ?_
      refine st_v rfl (r_mv rfl) ?_
      obtain ⟨k12, rfl, hk13, h⟩ := h
      obtain ⟨b14, o15, hb16, h⟩ := h
      refine st_v rfl (ia_sl_api_Word (s := a0) (j := k12) (o' := o15 + k12 * 2) rfl rfl hk13 hb16 rfl) ?_
      obtain ⟨v17_0, v17_1, hc18, h⟩ := h
      refine st_v rfl (lda_api_Word rfl rfl (Cells.ext hx hc18)) ?_
      refine st_v rfl (r_mv rfl) ?_
      refine st_v rfl (r_mv rfl) ?_
      obtain ⟨hk19, h⟩ := h
      obtain ⟨b20, o21, hb22, h⟩ := h
      refine st_v rfl (ia_sl_api_Word (s := a1) (j := k12) (o' := o21 + k12 * 2) rfl rfl hk19 hb22 rfl) ?_
      obtain ⟨v23_0, v23_1, hc24, h⟩ := h
      refine st_v rfl (lda_api_Word rfl rfl (Cells.ext hx hc24)) ?_
      refine st_v rfl (a_neq (xs := #[.string v17_0, .int .i64 v17_1]) (ys := #[.string v23_0, .int .i64 v23_1]) (bs := [decide (v17_0 = v23_0), decide (v17_1 = v23_1)]) Try.underlying67 eqf_api_Word rfl rfl (.cons rfl (feq_str Try.underlying9 rfl rfl) (.cons rfl (feq_int Try.underlying3 rfl rfl) .nil)) al2) ?_
      refine st_nil ?_
      refine bcases (decide ((v17_0 = v23_0) ∧ (v17_1 = v23_1))) (fun hb25 => ?_) (fun hb25 => ?_)
      · replace h := h.1 (of_decide_eq_true hb25)
        refine cw_cf rfl (nt hb25) ?_
        refine cw_skip ?_
        refine cw_region ?_
        refine sl_v rfl (r_mv rfl) ?_
        obtain ⟨z26, hz26, h⟩ := h
        refine sl_v rfl (r_add rfl rfl hz26) ?_
        refine sl_v rfl (r_as rfl) ?_
        refine sl_nil ?_
        replace h := h _ hx
        replace hx : Ext w10 w10 := Chg.refl _
        exact ⟨(z26), _, (kp (kp (kp rfl rfl) rfl) rfl), h.1, h.2⟩
      · replace h := h.2 (of_decide_eq_false hb25)
        refine cw_ct rfl (nf hb25) ?_
        refine cw_seq ?_
        refine cw_region ?_
        refine sl_v rfl (r_as rfl) ?_
        refine sl_nil ?_
        refine cw_ret ?_
        replace h := h _ hx
        replace hx : Ext w10 w10 := Chg.refl _
        exact rs_1 (rt rfl) ⟨false, rfl, h⟩
    · replace h := h.2 (of_decide_eq_false hb9)
      refine cw_cf rfl hb9 ?_
      refine cw_exit ?_
      refine cw_seq ?_
      refine cw_region ?_
      refine sl_v rfl (r_as rfl) ?_
      refine sl_nil ?_
      refine cw_ret ?_
      exact rs_1 (rt rfl) ⟨true, rfl, h⟩

def VC_ref07_Of (a0 : Sl) (R : Sl → World → Prop) (w : World) : Prop :=
  ∃ (I3 : Sl → Int → World → Prop) (μ4 : Sl → Int → World → Nat), I3 (⟨none, 0, 0⟩ : Sl) 0 w ∧ ∀ (l1 : Sl) (l2 : Int) (w6 : World), I3 l1 l2 w6 → ((l2 < ((a0.n : Nat) : Int) → (∃ k10 : Nat, l2 = ((k10 : Nat) : Int) ∧ k10 < a0.n ∧ (∃ (b12 o13 : Nat), a0.b = some ⟨b12, o13, none⟩ ∧ (∃ v15 : ByteArray, w6.cell? ⟨b12, o13 + k10 * 1, none⟩ = some (.string v15) ∧ (Calls PP n_ref07_Add #[l1.v, .string v15, .int .i64 1] w6 (fun e w18 => ∃ r21_0 : Sl, ∃ r21_1 : Int, e = .returned (.tuple #[r21_0.v, .int .i64 r21_1]) ∧ (∃ z22 : Int, z22 = IntKind.wrap .i64 (((k10 : Nat) : Int) + 1) ∧ (I3 r21_0 z22 w18 ∧ μ4 r21_0 z22 w18 < μ4 l1 l2 w6)))))))) ∧ (¬ (l2 < ((a0.n : Nat) : Int)) → (R l1 w6)))
set_option maxRecDepth 100000 in
theorem vc_ref07_Of {a0 : Sl} {R : Sl → World → Prop} {w : World} (h : VC_ref07_Of a0 R w) : Calls PP n_ref07_Of #[a0.v] w fun e w' => ∃ r0 : Sl, e = .returned (r0.v) ∧ R r0 w' := by
  refine Calls.mono (calls_of_cw (n := 21) (rs := #[.tmp 2]) (args := [a0.v]) (R := fun v w' => ∃ r0 : Sl, v = r0.v ∧ R r0 w') Try.func31 rfl rfl (Nat.le_of_ble_eq_true rfl) rfl ?_) ?_
  case refine_2 => rintro e w' ⟨v, rfl, hr⟩; obtain ⟨r0, rfl, hr⟩ := hr; exact ⟨r0, rfl, hr⟩
  have hx : Ext w w := Chg.refl _
  unfold VC_ref07_Of at h
  refine cw_seq ?_
  refine cw_region ?_
  refine sl_v rfl (r_as rfl) ?_
  refine sl_nil ?_
  refine cw_seq ?_
  refine cw_region ?_
  refine sl_v rfl (r_as rfl) ?_
  refine sl_nil ?_
  refine cw_seq ?_
  refine cw_seq ?_
  refine cw_region ?_
  refine sl_v rfl (r_as rfl) ?_
  refine sl_nil ?_
  refine cw_block ?_
  obtain ⟨I3, μ4, hI5, h⟩ := h
  refine cw_loop (σ := Sl × Int) (fun s g => (upd (upd (upd g 0 (a0.v)) 3 (s.1.v)) 4 (.int .i64 s.2))) (fun s w => I3 s.1 s.2 w) (fun s w => μ4 s.1 s.2 w) ((⟨none, 0, 0⟩ : Sl), 0) _ (kp (kp (kp rfl rfl) rfl) rfl) hI5 ?_
  rintro ⟨l1, l2⟩ g7 w6 hi8
  replace h := h l1 l2 w6 hi8
  have hx : Ext w6 w6 := Chg.refl _
  change CW PP _ _ _ (upd (upd (upd g7 0 (a0.v)) 3 (l1.v)) 4 (.int .i64 l2)) _
  refine cw_seq ?_
  refine cw_seq ?_
  refine cw_region ?_
  refine sl_v rfl (r_mv rfl) ?_
  refine sl_v rfl (r_mv rfl) ?_
  refine sl_v rfl (r_len_l (s := a0) rfl rfl Try.underlying37) ?_
  refine sl_v rfl (r_lss rfl rfl) ?_
  refine sl_nil ?_
  refine bcases (decide (l2 < ((a0.n : Nat) : Int))) (fun hb9 => ?_) (fun hb9 => ?_)
  · replace h := h.1 (of_decide_eq_true hb9)
    refine cw_ct rfl hb9 ?_
    refine cw_skip ?_
    refine cw_seq ?_
    refine cw_block ?_
    refine cw_region ?_
    refine sl_v rfl (r_mv rfl) ?_
    refine sl_v rfl (r_mv rfl) ?_
    refine sl_v rfl (r_mv rfl) ?_
    obtain ⟨k10, rfl, hk11, h⟩ := h
    obtain ⟨b12, o13, hb14, h⟩ := h
    refine sl_v rfl (ia_sl_string (s := a0) (j := k10) (o' := o13 + k10 * 1) rfl rfl hk11 hb14 rfl) ?_
    obtain ⟨v15, hc16, h⟩ := h
    refine sl_v rfl (ld_string rfl hc16) ?_
    refine sl_op rfl (ok_call c_ref07_Add rfl (Calls.mono h (fun e17 w18 hq19 => ?_)))
    clear h
    obtain ⟨r21_0, r21_1, he20, h⟩ := hq19
    refine ⟨_, he20, ?_⟩
    replace hx : Ext w18 w18 := Chg.refl _
    refine sl_v rfl (r_mv rfl) ?_
    refine sl_v rfl (r_ex rfl rfl) ?_
    refine sl_v rfl (r_ex rfl rfl) ?_
    refine sl_v rfl (r_as rfl) ?_
    refine sl_nil ?_
    refine cw_region ?_
    refine sl_v rfl (r_mv rfl) ?_
    obtain ⟨z22, hz22, h⟩ := h
    refine sl_v rfl (r_add rfl rfl hz22) ?_
    refine sl_v rfl (r_as rfl) ?_
    refine sl_nil ?_
    exact ⟨(r21_0, z22), _, (kp (kp (kp rfl rfl) rfl) rfl), h.1, h.2⟩
  · replace h := h.2 (of_decide_eq_false hb9)
    refine cw_cf rfl hb9 ?_
    refine cw_exit ?_
    refine cw_seq ?_
    refine cw_region ?_
    refine sl_v rfl (r_mv rfl) ?_
    refine sl_v rfl (r_as rfl) ?_
    refine sl_nil ?_
    refine cw_ret ?_
    exact rs_1 (rt rfl) ⟨l1, rfl, h⟩

def VC_law20_awake (R : Bool → World → Prop) (w : World) : Prop :=
  ∀ (b1 : Nat) (w2 : World), New w b1 (.cells #[.string (⟨#[97]⟩ : ByteArray), .string (⟨#[98]⟩ : ByteArray), .string (⟨#[97, 98]⟩ : ByteArray), .string (⟨#[97, 98]⟩ : ByteArray)] t_api_Merge (0, 0)) w2 → (Calls PP n_apply_New #[.slice (some ⟨b1, 0, none⟩) 2 2] w2 (fun e w5 => ∃ r8_0 : Option Addr, ∃ r8_1 : Int, e = .returned (.tuple #[.pointer r8_0, .int .i64 r8_1]) ∧ ((r8_1 = (0 : Int) → (Calls PP n_apply_Coder_Encode #[.pointer r8_0, .string (⟨#[97, 98, 97, 98]⟩ : ByteArray)] w5 (fun e w11 => ∃ r14 : Sl, e = .returned (r14.v) ∧ (∀ (b15 : Nat) (w16 : World), New w11 b15 (.cells #[.int .i64 257] t_int (0, 0)) w16 → (Calls PP n_ref01_Ints #[r14.v, .slice (some ⟨b15, 0, none⟩) 1 1] w16 (fun e w19 => ∃ r22 : Bool, e = .returned (.bool r22) ∧ ((r22 = true → (Calls PP n_apply_Coder_Encode #[.pointer r8_0, .string (⟨#[97, 98, 97]⟩ : ByteArray)] w19 (fun e w25 => ∃ r28 : Sl, e = .returned (r28.v) ∧ (∀ (b29 : Nat) (w30 : World), New w25 b29 (.cells #[.int .i64 256, .int .i64 97] t_int (0, 0)) w30 → (Calls PP n_ref01_Ints #[r28.v, .slice (some ⟨b29, 0, none⟩) 2 2] w30 (fun e w33 => ∃ r36 : Bool, e = .returned (.bool r36) ∧ (R r36 w33))))))) ∧ (r22 = false → (R false w19))))))))) ∧ (¬ (r8_1 = (0 : Int)) → (R false w5)))))
set_option maxRecDepth 100000 in
theorem vc_law20_awake {R : Bool → World → Prop} {w : World} (h : VC_law20_awake R w) : Calls PP n_law20_awake #[] w fun e w' => ∃ r0 : Bool, e = .returned (.bool r0) ∧ R r0 w' := by
  refine Calls.mono (calls_of_cw (n := 24) (rs := #[.tmp 0]) (args := []) (R := fun v w' => ∃ r0 : Bool, v = .bool r0 ∧ R r0 w') Try.func32 rfl rfl (Nat.le_of_ble_eq_true rfl) rfl ?_) ?_
  case refine_2 => rintro e w' ⟨v, rfl, hr⟩; obtain ⟨r0, rfl, hr⟩ := hr; exact ⟨r0, rfl, hr⟩
  have hx : Ext w w := Chg.refl _
  unfold VC_law20_awake at h
  refine cw_seq ?_
  refine cw_region ?_
  refine sl_v rfl (r_as rfl) ?_
  refine sl_nil ?_
  refine cw_seq ?_
  refine cw_region ?_
  refine sl_v rfl (bd_api_Merge (vs := [(0, .string (⟨#[97]⟩ : ByteArray)), (1, .string (⟨#[98]⟩ : ByteArray))]) (cs := #[.string (⟨#[97]⟩ : ByteArray), .string (⟨#[98]⟩ : ByteArray)]) rfl rfl) ?_
  refine sl_v rfl (bd_api_Merge (vs := [(0, .string (⟨#[97, 98]⟩ : ByteArray)), (1, .string (⟨#[97, 98]⟩ : ByteArray))]) (cs := #[.string (⟨#[97, 98]⟩ : ByteArray), .string (⟨#[97, 98]⟩ : ByteArray)]) rfl rfl) ?_
  refine sl_op rfl (bs_sl_api_Merge (len := 2) (vs := [(0, .agg #[.string (⟨#[97]⟩ : ByteArray), .string (⟨#[98]⟩ : ByteArray)]), (1, .agg #[.string (⟨#[97, 98]⟩ : ByteArray), .string (⟨#[97, 98]⟩ : ByteArray)])]) (cs := #[.string (⟨#[97]⟩ : ByteArray), .string (⟨#[98]⟩ : ByteArray), .string (⟨#[97, 98]⟩ : ByteArray), .string (⟨#[97, 98]⟩ : ByteArray)]) (by decide) rfl rfl (fun b1 w2 hN3 => ?_))
  replace h := h b1 w2 hN3
  replace hx : Ext w2 w2 := Chg.refl _
  refine sl_op rfl (ok_call c_apply_New rfl (Calls.mono h (fun e4 w5 hq6 => ?_)))
  clear h
  obtain ⟨r8_0, r8_1, he7, h⟩ := hq6
  refine ⟨_, he7, ?_⟩
  replace hx : Ext w5 w5 := Chg.refl _
  refine sl_v rfl (r_mv rfl) ?_
  refine sl_v rfl (r_ex rfl rfl) ?_
  refine sl_v rfl (r_ex rfl rfl) ?_
  refine sl_v rfl (r_as rfl) ?_
  refine sl_v rfl (r_as rfl) ?_
  refine sl_nil ?_
  refine cw_seq ?_
  refine cw_region ?_
  refine sl_v rfl (r_mv rfl) ?_
  refine sl_v rfl (r_eql rfl rfl) ?_
  refine sl_v rfl (r_mv rfl) ?_
  refine bcases (decide (r8_1 = (0 : Int))) (fun hb9 => ?_) (fun hb9 => ?_)
  · replace h := h.1 (of_decide_eq_true hb9)
    refine sl_vg rfl rfl rfl hb9 (r_mv rfl) ?_
    refine sl_g rfl rfl rfl hb9 (ok_call c_apply_Coder_Encode rfl (Calls.mono h (fun e10 w11 hq12 => ?_)))
    clear h
    obtain ⟨r14, he13, h⟩ := hq12
    refine ⟨_, he13, ?_⟩
    replace hx : Ext w11 w11 := Chg.refl _
    refine sl_g rfl rfl rfl hb9 (bs_sl_int (len := 1) (vs := [(0, .int .i64 257)]) (cs := #[.int .i64 257]) (by decide) rfl rfl (fun b15 w16 hN17 => ?_))
    replace h := h b15 w16 hN17
    replace hx : Ext w16 w16 := Chg.refl _
    refine sl_g rfl rfl rfl hb9 (ok_call c_ref01_Ints rfl (Calls.mono h (fun e18 w19 hq20 => ?_)))
    clear h
    obtain ⟨r22, he21, h⟩ := hq20
    refine ⟨_, he21, ?_⟩
    replace hx : Ext w19 w19 := Chg.refl _
    refine sl_v rfl (r_pt rfl hb9 rfl) ?_
    refine sl_v rfl (r_mv rfl) ?_
    refine bcases (r22) (fun hb23 => ?_) (fun hb23 => ?_)
    · replace h := h.1 hb23
      refine sl_vg rfl rfl rfl hb23 (r_mv rfl) ?_
      refine sl_g rfl rfl rfl hb23 (ok_call c_apply_Coder_Encode rfl (Calls.mono h (fun e24 w25 hq26 => ?_)))
      clear h
      obtain ⟨r28, he27, h⟩ := hq26
      refine ⟨_, he27, ?_⟩
      replace hx : Ext w25 w25 := Chg.refl _
      refine sl_g rfl rfl rfl hb23 (bs_sl_int (len := 2) (vs := [(0, .int .i64 256), (1, .int .i64 97)]) (cs := #[.int .i64 256, .int .i64 97]) (by decide) rfl rfl (fun b29 w30 hN31 => ?_))
      replace h := h b29 w30 hN31
      replace hx : Ext w30 w30 := Chg.refl _
      refine sl_g rfl rfl rfl hb23 (ok_call c_ref01_Ints rfl (Calls.mono h (fun e32 w33 hq34 => ?_)))
      clear h
      obtain ⟨r36, he35, h⟩ := hq34
      refine ⟨_, he35, ?_⟩
      replace hx : Ext w33 w33 := Chg.refl _
      refine sl_v rfl (r_pt rfl hb23 rfl) ?_
      refine sl_v rfl (r_as rfl) ?_
      refine sl_nil ?_
      refine cw_ret ?_
      exact rs_1 (rt rfl) ⟨r36, rfl, h⟩
    · replace h := h.2 hb23
      refine sl_no rfl rfl rfl hb23 ?_
      refine sl_no rfl rfl rfl hb23 ?_
      refine sl_no rfl rfl rfl hb23 ?_
      refine sl_no rfl rfl rfl hb23 ?_
      refine sl_v rfl (r_pf rfl hb23 rfl) ?_
      refine sl_v rfl (r_as rfl) ?_
      refine sl_nil ?_
      refine cw_ret ?_
      exact rs_1 (rt rfl) ⟨false, rfl, h⟩
  · replace h := h.2 (of_decide_eq_false hb9)
    refine sl_no rfl rfl rfl hb9 ?_
    refine sl_no rfl rfl rfl hb9 ?_
    refine sl_no rfl rfl rfl hb9 ?_
    refine sl_no rfl rfl rfl hb9 ?_
    refine sl_v rfl (r_pf rfl hb9 rfl) ?_
    refine sl_v rfl (r_mv rfl) ?_
    refine sl_no rfl rfl rfl rfl ?_
    refine sl_no rfl rfl rfl rfl ?_
    refine sl_no rfl rfl rfl rfl ?_
    refine sl_no rfl rfl rfl rfl ?_
    refine sl_v rfl (r_pf rfl rfl rfl) ?_
    refine sl_v rfl (r_as rfl) ?_
    refine sl_nil ?_
    refine cw_ret ?_
    exact rs_1 (rt rfl) ⟨false, rfl, h⟩

def VC_ref07_Great (a0 : Sl) (a1 : Int) (R : Bool → World → Prop) (w : World) : Prop :=
  ∃ (I2 : Int → World → Prop) (μ3 : Int → World → Nat), I2 0 w ∧ ∀ (l1 : Int) (w5 : World), I2 l1 w5 → ((l1 < ((a0.n : Nat) : Int) → (∃ k9 : Nat, l1 = ((k9 : Nat) : Int) ∧ k9 < a0.n ∧ (∃ (b11 o12 : Nat), a0.b = some ⟨b11, o12, none⟩ ∧ (∃ v14 : ByteArray, w5.cell? ⟨b11, o12 + k9 * 2, none⟩ = some (.string v14) ∧ (((100 : Int) < ((v14.size : Nat) : Int) → (R true w5)) ∧ (¬ ((100 : Int) < ((v14.size : Nat) : Int)) → (∃ z17 : Int, z17 = IntKind.wrap .i64 (((k9 : Nat) : Int) + 1) ∧ (I2 z17 w5 ∧ μ3 z17 w5 < μ3 l1 w5)))))))) ∧ (¬ (l1 < ((a0.n : Nat) : Int)) → (R (decide (a1 < ((a0.n : Nat) : Int))) w5)))
set_option maxRecDepth 100000 in
theorem vc_ref07_Great {a0 : Sl} {a1 : Int} {R : Bool → World → Prop} {w : World} (h : VC_ref07_Great a0 a1 R w) : Calls PP n_ref07_Great #[a0.v, .int .i64 a1] w fun e w' => ∃ r0 : Bool, e = .returned (.bool r0) ∧ R r0 w' := by
  refine Calls.mono (calls_of_cw (n := 23) (rs := #[.tmp 4]) (args := [a0.v, .int .i64 a1]) (R := fun v w' => ∃ r0 : Bool, v = .bool r0 ∧ R r0 w') Try.func33 rfl rfl (Nat.le_of_ble_eq_true rfl) rfl ?_) ?_
  case refine_2 => rintro e w' ⟨v, rfl, hr⟩; obtain ⟨r0, rfl, hr⟩ := hr; exact ⟨r0, rfl, hr⟩
  have hx : Ext w w := Chg.refl _
  unfold VC_ref07_Great at h
  refine cw_seq ?_
  refine cw_region ?_
  refine sl_v rfl (r_as rfl) ?_
  refine sl_nil ?_
  refine cw_seq ?_
  refine cw_seq ?_
  refine cw_region ?_
  refine sl_v rfl (r_as rfl) ?_
  refine sl_nil ?_
  refine cw_block ?_
  obtain ⟨I2, μ3, hI4, h⟩ := h
  refine cw_loop (σ := Int) (fun s g => (upd (upd (upd g 0 (a0.v)) 1 (.int .i64 a1)) 5 (.int .i64 s))) (fun s w => I2 s w) (fun s w => μ3 s w) (0) _ (kp (kp (kp rfl rfl) rfl) rfl) hI4 ?_
  rintro l1 g6 w5 hi7
  replace h := h l1 w5 hi7
  have hx : Ext w5 w5 := Chg.refl _
  change CW PP _ _ _ (upd (upd (upd g6 0 (a0.v)) 1 (.int .i64 a1)) 5 (.int .i64 l1)) _
  refine cw_seq ?_
  refine cw_seq ?_
  refine cw_region ?_
  refine sl_v rfl (r_mv rfl) ?_
  refine sl_v rfl (r_mv rfl) ?_
  refine sl_v rfl (r_len_l (s := a0) rfl rfl Try.underlying50) ?_
  refine sl_v rfl (r_lss rfl rfl) ?_
  refine sl_nil ?_
  refine bcases (decide (l1 < ((a0.n : Nat) : Int))) (fun hb8 => ?_) (fun hb8 => ?_)
  · replace h := h.1 (of_decide_eq_true hb8)
    refine cw_ct rfl hb8 ?_
    refine cw_skip ?_
    refine cw_seq ?_
    refine cw_block ?_
    refine cw_seq ?_
    refine cw_region ?_
    refine sl_v rfl (r_mv rfl) ?_
    refine sl_v rfl (r_mv rfl) ?_
    obtain ⟨k9, rfl, hk10, h⟩ := h
    obtain ⟨b11, o12, hb13, h⟩ := h
    refine sl_v rfl (ia_sl_api_Word (s := a0) (j := k9) (o' := o12 + k9 * 2) rfl rfl hk10 hb13 rfl) ?_
    refine sl_v rfl (fa_api_Word_0 (o' := o12 + k9 * 2) rfl rfl) ?_
    obtain ⟨v14, hc15, h⟩ := h
    refine sl_v rfl (ld_string rfl hc15) ?_
    refine sl_v rfl (r_len_s rfl rfl Try.underlying9) ?_
    refine sl_v rfl (r_gtr rfl rfl) ?_
    refine sl_nil ?_
    refine bcases (decide ((100 : Int) < ((v14.size : Nat) : Int))) (fun hb16 => ?_) (fun hb16 => ?_)
    · replace h := h.1 (of_decide_eq_true hb16)
      refine cw_ct rfl hb16 ?_
      refine cw_seq ?_
      refine cw_region ?_
      refine sl_v rfl (r_as rfl) ?_
      refine sl_nil ?_
      refine cw_ret ?_
      exact rs_1 (rt rfl) ⟨true, rfl, h⟩
    · replace h := h.2 (of_decide_eq_false hb16)
      refine cw_cf rfl hb16 ?_
      refine cw_skip ?_
      refine cw_region ?_
      refine sl_v rfl (r_mv rfl) ?_
      obtain ⟨z17, hz17, h⟩ := h
      refine sl_v rfl (r_add rfl rfl hz17) ?_
      refine sl_v rfl (r_as rfl) ?_
      refine sl_nil ?_
      exact ⟨(z17), _, (kp (kp (kp rfl rfl) rfl) rfl), h.1, h.2⟩
  · replace h := h.2 (of_decide_eq_false hb8)
    refine cw_cf rfl hb8 ?_
    refine cw_exit ?_
    refine cw_seq ?_
    refine cw_region ?_
    refine sl_v rfl (r_mv rfl) ?_
    refine sl_v rfl (r_len_l (s := a0) rfl rfl Try.underlying50) ?_
    refine sl_v rfl (r_mv rfl) ?_
    refine sl_v rfl (r_gtr rfl rfl) ?_
    refine sl_v rfl (r_as rfl) ?_
    refine sl_nil ?_
    refine cw_ret ?_
    exact rs_1 (rt rfl) ⟨decide (a1 < ((a0.n : Nat) : Int)), rfl, h⟩
end Go.Proofs.Ytcgeeddhneopfaa.G
