/- What is to be shown of each function, and that it is enough. -/
import Derived.Test.YtchjcjocihckpaaTC
set_option linter.unusedVariables false
namespace Go.Proofs.Ytchjcjocihckpaa.G
open Go Go.RowKit
def VC_ref20_Symbol (a0 : Sl) (a1 : ByteArray) (R : Int → World → Prop) (w : World) : Prop :=
  (((a1.size : Nat) : Int) = (1 : Int) → (0 < a1.size ∧ (∃ z3 : Int, z3 = IntKind.wrap .i64 (((a1.data.toList.getD 0 0).toNat : Nat) : Int) ∧ (R z3 w)))) ∧ (¬ (((a1.size : Nat) : Int) = (1 : Int)) → (∃ (I5 : Int → World → Prop) (μ6 : Int → World → Nat), I5 0 w ∧ ∀ (l4 : Int) (w8 : World), I5 l4 w8 → ((l4 < ((a0.n : Nat) : Int) → (∃ k14 : Nat, l4 = ((k14 : Nat) : Int) ∧ k14 < a0.n ∧ (∃ (b16 o17 : Nat), a0.b = some ⟨b16, o17, none⟩ ∧ (∃ v19 : ByteArray, w8.cell? ⟨b16, o17 + k14 * 2, none⟩ = some (.string v19) ∧ (∃ v21 : ByteArray, w8.cell? ⟨b16, o17 + k14 * 2 + 1, none⟩ = some (.string v21) ∧ (v19.size + v21.size ≤ 9223372036854775807 ∧ (((v19 ++ v21) = a1 → (∃ z25 : Int, z25 = IntKind.wrap .i64 (256 + ((k14 : Nat) : Int)) ∧ (∀ w12 : World, Ext w8 w12 → (R z25 w12)))) ∧ (¬ ((v19 ++ v21) = a1) → (∃ z27 : Int, z27 = IntKind.wrap .i64 (((k14 : Nat) : Int) + 1) ∧ (∀ w12 : World, Ext w8 w12 → (I5 z27 w12 ∧ μ6 z27 w12 < μ6 l4 w8))))))))))) ∧ (¬ (l4 < ((a0.n : Nat) : Int)) → (R (-1) w8)))))
set_option maxRecDepth 100000 in
theorem vc_ref20_Symbol {a0 : Sl} {a1 : ByteArray} {R : Int → World → Prop} {w : World} (h : VC_ref20_Symbol a0 a1 R w) : Calls PP n_ref20_Symbol #[a0.v, .string a1] w fun e w' => ∃ r0 : Int, e = .returned (.int .i64 r0) ∧ R r0 w' := by
  refine Calls.mono (calls_of_cw (n := 33) (rs := #[.tmp 4]) (args := [a0.v, .string a1]) (R := fun v w' => ∃ r0 : Int, v = .int .i64 r0 ∧ R r0 w') Try.func64 rfl rfl (Nat.le_of_ble_eq_true rfl) rfl ?_) ?_
  case refine_2 => rintro e w' ⟨v, rfl, hr⟩; obtain ⟨r0, rfl, hr⟩ := hr; exact ⟨r0, rfl, hr⟩
  have hx : Ext w w := Chg.refl _
  unfold VC_ref20_Symbol at h
  refine cw_seq ?_
  refine cw_region ?_
  refine sl_v rfl (r_as rfl) ?_
  refine sl_nil ?_
  refine cw_seq ?_
  refine cw_seq ?_
  refine cw_region ?_
  refine sl_v rfl (r_mv rfl) ?_
  refine sl_v rfl (r_len_s rfl rfl Try.underlying9) ?_
  refine sl_v rfl (r_eql rfl rfl) ?_
  refine sl_nil ?_
  refine bcases (decide (((a1.size : Nat) : Int) = (1 : Int))) (fun hb1 => ?_) (fun hb1 => ?_)
  · replace h := h.1 (of_decide_eq_true hb1)
    refine cw_ct rfl hb1 ?_
    refine cw_seq ?_
    refine cw_region ?_
    refine sl_v rfl (r_mv rfl) ?_
    obtain ⟨hk2, h⟩ := h
    refine sl_v rfl (r_ix (j := 0) rfl rfl Try.underlying9 hk2) ?_
    obtain ⟨z3, hz3, h⟩ := h
    refine sl_v rfl (r_ci (z := z3) rfl Try.underlying5 Try.underlying3 hz3) ?_
    refine sl_v rfl (r_as rfl) ?_
    refine sl_nil ?_
    refine cw_ret ?_
    exact rs_1 (rt rfl) ⟨z3, rfl, h⟩
  · replace h := h.2 (of_decide_eq_false hb1)
    refine cw_cf rfl hb1 ?_
    refine cw_skip ?_
    refine cw_seq ?_
    refine cw_seq ?_
    refine cw_region ?_
    refine sl_v rfl (r_as rfl) ?_
    refine sl_nil ?_
    refine cw_block ?_
    obtain ⟨I5, μ6, hI7, h⟩ := h
    refine cw_loop (σ := Int) (fun s g => (upd (upd (upd (nm g []) 0 (a0.v)) 1 (.string a1)) 5 (.int .i64 s))) (fun s w => I5 s w) (fun s w => μ6 s w) (0) _ (kp (kp (kp (kn rfl) rfl) rfl) rfl) hI7 ?_
    rintro l4 g9 w8 hi10
    replace h := h l4 w8 hi10
    have hx : Ext w8 w8 := Chg.refl _
    change CW _ PP _ _ _ (upd (upd (upd (nm g9 []) 0 (a0.v)) 1 (.string a1)) 5 (.int .i64 l4)) _
    refine cw_seq ?_
    refine cw_seq ?_
    refine cw_region ?_
    refine sl_v rfl (r_mv rfl) ?_
    refine sl_v rfl (r_mv rfl) ?_
    refine sl_v rfl (r_len_l (s := a0) rfl rfl Try.underlying22) ?_
    refine sl_v rfl (r_lss rfl rfl) ?_
    refine sl_nil ?_
    refine bcases (decide (l4 < ((a0.n : Nat) : Int))) (fun hb11 => ?_) (fun hb11 => ?_)
    · replace h := h.1 (of_decide_eq_true hb11)
      refine cw_ct rfl hb11 ?_
      refine cw_skip ?_
      refine cw_seq ?_
      refine cw_block ?_
      refine cw_seq ?_
      refine cw_still mo (by kernel_rfl) (fun w12 hd13 => ?_)
      replace hx := hx.tr (Ext.of_drew hd13)
      refine st_v rfl (r_mv rfl) ?_
      refine st_v rfl (r_mv rfl) ?_
      obtain ⟨k14, rfl, hk15, h⟩ := h
      obtain ⟨b16, o17, hb18, h⟩ := h
      refine st_v rfl (ia_sl_api_Merge (s := a0) (j := k14) (o' := o17 + k14 * 2) rfl rfl hk15 hb18 rfl) ?_
      refine st_v rfl (fa_api_Merge_0 (o' := o17 + k14 * 2) rfl rfl) ?_
      obtain ⟨v19, hc20, h⟩ := h
      refine st_v rfl (ld_string rfl (hx.cell hc20)) ?_
      refine st_v rfl (r_mv rfl) ?_
      refine st_v rfl (r_mv rfl) ?_
      refine st_v rfl (ia_sl_api_Merge (s := a0) (j := k14) (o' := o17 + k14 * 2) rfl rfl hk15 hb18 rfl) ?_
      refine st_v rfl (fa_api_Merge_1 (o' := o17 + k14 * 2 + 1) rfl rfl) ?_
      obtain ⟨v21, hc22, h⟩ := h
      refine st_v rfl (ld_string rfl (hx.cell hc22)) ?_
      obtain ⟨hs23, h⟩ := h
      refine st_v rfl (s_cat rfl rfl hs23) ?_
      refine st_v rfl (r_mv rfl) ?_
      refine st_v rfl (s_eql rfl rfl) ?_
      refine st_nil ?_
      refine bcases (decide ((v19 ++ v21) = a1)) (fun hb24 => ?_) (fun hb24 => ?_)
      · replace h := h.1 (of_decide_eq_true hb24)
        refine cw_ct rfl hb24 ?_
        refine cw_seq ?_
        refine cw_region ?_
        refine sl_v rfl (r_mv rfl) ?_
        obtain ⟨z25, hz25, h⟩ := h
        refine sl_v rfl (r_add rfl rfl hz25) ?_
        refine sl_v rfl (r_as rfl) ?_
        refine sl_nil ?_
        refine cw_ret ?_
        replace h := h _ hx
        replace hx : Ext w12 w12 := Chg.refl _
        exact rs_1 (rt rfl) ⟨z25, rfl, h⟩
      · replace h := h.2 (of_decide_eq_false hb24)
        refine cw_cf rfl hb24 ?_
        refine cw_skip ?_
        refine cw_region ?_
        refine sl_v rfl (r_mv rfl) ?_
        obtain ⟨z27, hz27, h⟩ := h
        refine sl_v rfl (r_add rfl rfl hz27) ?_
        refine sl_v rfl (r_as rfl) ?_
        refine sl_nil ?_
        replace h := h _ hx
        replace hx : Ext w12 w12 := Chg.refl _
        exact ⟨(z27), _, (kp (kp (kp (kn rfl) rfl) rfl) rfl), h.1, h.2⟩
    · replace h := h.2 (of_decide_eq_false hb11)
      refine cw_cf rfl hb11 ?_
      refine cw_exit ?_
      refine cw_seq ?_
      refine cw_region ?_
      refine sl_v rfl (r_as rfl) ?_
      refine sl_nil ?_
      refine cw_ret ?_
      exact rs_1 (rt rfl) ⟨(-1), rfl, h⟩

def VC_sym_Table_Len (a0 : Option Addr) (R : Int → World → Prop) (w : World) : Prop :=
  (a0 = none → (R 0 w)) ∧ (¬ (a0 = none) → (∃ (b2 o3 : Nat), a0 = some ⟨b2, o3, none⟩ ∧ (∃ v4 : Sl, w.cell? ⟨b2, o3, none⟩ = some (v4.v) ∧ (∃ z6 : Int, z6 = IntKind.wrap .i64 (256 + ((v4.n : Nat) : Int)) ∧ (R z6 w)))))
set_option maxRecDepth 100000 in
theorem vc_sym_Table_Len {a0 : Option Addr} {R : Int → World → Prop} {w : World} (h : VC_sym_Table_Len a0 R w) : Calls PP n_sym_Table_Len #[.pointer a0] w fun e w' => ∃ r0 : Int, e = .returned (.int .i64 r0) ∧ R r0 w' := by
  refine Calls.mono (calls_of_cw (n := 11) (rs := #[.tmp 2]) (args := [.pointer a0]) (R := fun v w' => ∃ r0 : Int, v = .int .i64 r0 ∧ R r0 w') Try.func65 rfl rfl (Nat.le_of_ble_eq_true rfl) rfl ?_) ?_
  case refine_2 => rintro e w' ⟨v, rfl, hr⟩; obtain ⟨r0, rfl, hr⟩ := hr; exact ⟨r0, rfl, hr⟩
  have hx : Ext w w := Chg.refl _
  unfold VC_sym_Table_Len at h
  refine cw_seq ?_
  refine cw_region ?_
  refine sl_v rfl (r_as rfl) ?_
  refine sl_nil ?_
  refine cw_seq ?_
  refine cw_seq ?_
  refine cw_region ?_
  refine sl_v rfl (r_mv rfl) ?_
  refine sl_v rfl (p_eqn rfl rfl Try.underlying86) ?_
  refine sl_nil ?_
  refine bcases (decide (a0 = none)) (fun hb1 => ?_) (fun hb1 => ?_)
  · replace h := h.1 (of_decide_eq_true hb1)
    refine cw_ct rfl hb1 ?_
    refine cw_seq ?_
    refine cw_region ?_
    refine sl_v rfl (r_as rfl) ?_
    refine sl_nil ?_
    refine cw_ret ?_
    exact rs_1 (rt rfl) ⟨0, rfl, h⟩
  · replace h := h.2 (of_decide_eq_false hb1)
    refine cw_cf rfl hb1 ?_
    refine cw_skip ?_
    refine cw_seq ?_
    refine cw_region ?_
    refine sl_v rfl (r_mv rfl) ?_
    obtain ⟨b2, o3, rfl, h⟩ := h
    refine sl_v rfl (r_nc rfl) ?_
    refine sl_v rfl (fa_sym_Table_0 (o' := o3) rfl rfl) ?_
    obtain ⟨v4, hc5, h⟩ := h
    refine sl_v rfl (ld_sl_sym_joined rfl hc5) ?_
    refine sl_v rfl (r_len_l (s := v4) rfl rfl Try.underlying116) ?_
    obtain ⟨z6, hz6, h⟩ := h
    refine sl_v rfl (r_add rfl rfl hz6) ?_
    refine sl_v rfl (r_as rfl) ?_
    refine sl_nil ?_
    refine cw_ret ?_
    exact rs_1 (rt rfl) ⟨z6, rfl, h⟩

def VC_file_join (a0 : Option Addr) (a1_0 : ByteArray) (a1_1 : ByteArray) (R : Int → World → Prop) (w : World) : Prop :=
  ∀ (b1 : Nat) (w2 : World), Priv w b1 w2 → (Calls PP n_sym_Table_Find #[.pointer a0, .string a1_0] w2 (fun e w6 => ∃ r9_0 : Int, ∃ r9_1 : Bool, e = .returned (.tuple #[.int .i64 r9_0, .bool r9_1]) ∧ w6.heap[b1]? = w2.heap[b1]? ∧ (Calls PP n_sym_Table_Find #[.pointer a0, .string a1_1] w6 (fun e w12 => ∃ r15_0 : Int, ∃ r15_1 : Bool, e = .returned (.tuple #[.int .i64 r15_0, .bool r15_1]) ∧ w12.heap[b1]? = w6.heap[b1]? ∧ ((r9_1 = true → ((r15_1 = true → (Calls PP n_sym_Table_Join #[.pointer a0, .int .i64 r9_0, .int .i64 r15_0] w12 (fun e w20 => ∃ r23_0 : Int, ∃ r23_1 : Int, e = .returned (.tuple #[.int .i64 r23_0, .int .i64 r23_1]) ∧ w20.heap[b1]? = w12.heap[b1]? ∧ (R r23_1 w20)))) ∧ (r15_1 = false → (R 7 w12)))) ∧ (r9_1 = false → (R 7 w12)))))))
set_option maxRecDepth 100000 in
theorem vc_file_join {a0 : Option Addr} {a1_0 : ByteArray} {a1_1 : ByteArray} {R : Int → World → Prop} {w : World} (h : VC_file_join a0 a1_0 a1_1 R w) : Calls PP n_file_join #[.pointer a0, .agg #[.string a1_0, .string a1_1]] w fun e w' => ∃ r0 : Int, e = .returned (.int .i64 r0) ∧ R r0 w' := by
  refine Calls.mono (calls_of_cw (n := 39) (rs := #[.tmp 4]) (args := [.pointer a0, .agg #[.string a1_0, .string a1_1]]) (R := fun v w' => ∃ r0 : Int, v = .int .i64 r0 ∧ R r0 w') Try.func66 rfl rfl (Nat.le_of_ble_eq_true rfl) rfl ?_) ?_
  case refine_2 => rintro e w' ⟨v, rfl, hr⟩; obtain ⟨r0, rfl, hr⟩ := hr; exact ⟨r0, rfl, hr⟩
  have hx : Ext w w := Chg.refl _
  unfold VC_file_join at h
  refine cw_seq ?_
  refine cw_region ?_
  refine sl_op rfl (bx_api_Merge rfl rfl (fun b1 w2 hN3 => ?_))
  have hB4 := hN3.here
  replace h := h b1 w2 ⟨hx.tr hN3.ext, Nat.le_trans hx.size hN3.fresh, lt_of_blk hN3.here⟩
  replace hx : Ext w2 w2 := Chg.refl _
  refine sl_v rfl (r_as rfl) ?_
  refine sl_nil ?_
  refine cw_seq ?_
  refine cw_region ?_
  refine sl_v rfl (r_mv rfl) ?_
  refine sl_v rfl (fa_api_Merge_0 (o' := 0) rfl rfl) ?_
  refine sl_v rfl (ld_string rfl (cell_blk hB4 rfl)) ?_
  refine sl_op rfl (ok_call c_sym_Table_Find rfl (Calls.mono h (fun e5 w6 hq7 => ?_)))
  clear h
  obtain ⟨r9_0, r9_1, he8, hk10, h⟩ := hq7
  refine ⟨_, he8, ?_⟩
  replace hB4 := hk10.trans hB4
  replace hx : Ext w6 w6 := Chg.refl _
  refine sl_v rfl (r_mv rfl) ?_
  refine sl_v rfl (r_ex rfl rfl) ?_
  refine sl_v rfl (r_ex rfl rfl) ?_
  refine sl_v rfl (r_as rfl) ?_
  refine sl_v rfl (r_as rfl) ?_
  refine sl_nil ?_
  refine cw_seq ?_
  refine cw_region ?_
  refine sl_v rfl (r_mv rfl) ?_
  refine sl_v rfl (fa_api_Merge_1 (o' := 1) rfl rfl) ?_
  refine sl_v rfl (ld_string rfl (cell_blk hB4 rfl)) ?_
  refine sl_op rfl (ok_call c_sym_Table_Find rfl (Calls.mono h (fun e11 w12 hq13 => ?_)))
  clear h
  obtain ⟨r15_0, r15_1, he14, hk16, h⟩ := hq13
  refine ⟨_, he14, ?_⟩
  replace hB4 := hk16.trans hB4
  replace hx : Ext w12 w12 := Chg.refl _
  refine sl_v rfl (r_mv rfl) ?_
  refine sl_v rfl (r_ex rfl rfl) ?_
  refine sl_v rfl (r_ex rfl rfl) ?_
  refine sl_v rfl (r_as rfl) ?_
  refine sl_v rfl (r_as rfl) ?_
  refine sl_nil ?_
  refine cw_seq ?_
  refine cw_seq ?_
  refine cw_region ?_
  refine sl_v rfl (r_mv rfl) ?_
  refine sl_v rfl (r_not rfl) ?_
  refine sl_v rfl (r_mv rfl) ?_
  refine bcases (r9_1) (fun hb17 => ?_) (fun hb17 => ?_)
  · replace h := h.1 hb17
    refine sl_vg rfl rfl rfl (nt hb17) (r_mv rfl) ?_
    refine sl_vg rfl rfl rfl (nt hb17) (r_not rfl) ?_
    refine sl_v rfl (r_pf rfl (nt hb17) rfl) ?_
    refine sl_nil ?_
    refine bcases (r15_1) (fun hb18 => ?_) (fun hb18 => ?_)
    · replace h := h.1 hb18
      refine cw_cf rfl (nt hb18) ?_
      refine cw_skip ?_
      refine cw_seq ?_
      refine cw_region ?_
      refine sl_v rfl (r_mv rfl) ?_
      refine sl_v rfl (r_mv rfl) ?_
      refine sl_v rfl (r_mv rfl) ?_
      refine sl_op rfl (ok_call c_sym_Table_Join rfl (Calls.mono h (fun e19 w20 hq21 => ?_)))
      clear h
      obtain ⟨r23_0, r23_1, he22, hk24, h⟩ := hq21
      refine ⟨_, he22, ?_⟩
      replace hB4 := hk24.trans hB4
      replace hx : Ext w20 w20 := Chg.refl _
      refine sl_v rfl (r_mv rfl) ?_
      refine sl_v rfl (r_ex rfl rfl) ?_
      refine sl_v rfl (r_ex rfl rfl) ?_
      refine sl_v rfl (r_as rfl) ?_
      refine sl_v rfl (r_as rfl) ?_
      refine sl_nil ?_
      refine cw_seq ?_
      refine cw_region ?_
      refine sl_v rfl (r_mv rfl) ?_
      refine sl_v rfl (r_as rfl) ?_
      refine sl_nil ?_
      refine cw_ret ?_
      exact rs_1 (rt rfl) ⟨r23_1, rfl, h⟩
    · replace h := h.2 hb18
      refine cw_ct rfl (nf hb18) ?_
      refine cw_seq ?_
      refine cw_region ?_
      refine sl_v rfl (r_as rfl) ?_
      refine sl_nil ?_
      refine cw_ret ?_
      exact rs_1 (rt rfl) ⟨7, rfl, h⟩
  · replace h := h.2 hb17
    refine sl_no rfl rfl rfl (nf hb17) ?_
    refine sl_no rfl rfl rfl (nf hb17) ?_
    refine sl_v rfl (r_pt rfl (nf hb17) rfl) ?_
    refine sl_nil ?_
    refine cw_ct rfl rfl ?_
    refine cw_seq ?_
    refine cw_region ?_
    refine sl_v rfl (r_as rfl) ?_
    refine sl_nil ?_
    refine cw_ret ?_
    exact rs_1 (rt rfl) ⟨7, rfl, h⟩

def VC_ref08_Weight (a0 : Sl) (R : Int → Bool → World → Prop) (w : World) : Prop :=
  ∃ (I3 : Int → Int → World → Prop) (μ4 : Int → Int → World → Nat), I3 0 0 w ∧ ∀ (l1 : Int) (l2 : Int) (w6 : World), I3 l1 l2 w6 → ((l2 < ((a0.n : Nat) : Int) → (∃ k10 : Nat, l2 = ((k10 : Nat) : Int) ∧ k10 < a0.n ∧ (∃ (b12 o13 : Nat), a0.b = some ⟨b12, o13, none⟩ ∧ (∃ v15 : Int, w6.cell? ⟨b12, o13 + k10 * 2 + 1, none⟩ = some (.int .i64 v15) ∧ (∃ v17 : ByteArray, w6.cell? ⟨b12, o13 + k10 * 2, none⟩ = some (.string v17) ∧ (∃ z19 : Int, z19 = IntKind.wrap .i64 (((v17.size : Nat) : Int) - 1) ∧ (∀ w20 : World, Ext w6 w20 → (Calls PP n_ref06_Mul #[.int .i64 v15, .int .i64 (max 0 z19)] w20 (fun e w24 => ∃ r27_0 : Int, ∃ r27_1 : Bool, e = .returned (.tuple #[.int .i64 r27_0, .bool r27_1]) ∧ (w24.cell? ⟨b12, o13 + k10 * 2 + 1, none⟩ = some (.int .i64 v15) ∧ (w24.cell? ⟨b12, o13 + k10 * 2, none⟩ = some (.string v17) ∧ ((r27_1 = true → (Calls PP n_ref06_Add #[.int .i64 l1, .int .i64 r27_0] w24 (fun e w32 => ∃ r35_0 : Int, ∃ r35_1 : Bool, e = .returned (.tuple #[.int .i64 r35_0, .bool r35_1]) ∧ ((r35_1 = true → (∃ z37 : Int, z37 = IntKind.wrap .i64 (((k10 : Nat) : Int) + 1) ∧ (I3 r35_0 z37 w32 ∧ μ4 r35_0 z37 w32 < μ4 l1 l2 w6))) ∧ (r35_1 = false → (R 0 false w32)))))) ∧ (r27_1 = false → (R 0 false w24)))))))))))))) ∧ (¬ (l2 < ((a0.n : Nat) : Int)) → (R l1 true w6)))
set_option maxRecDepth 100000 in
theorem vc_ref08_Weight {a0 : Sl} {R : Int → Bool → World → Prop} {w : World} (h : VC_ref08_Weight a0 R w) : Calls PP n_ref08_Weight #[a0.v] w fun e w' => ∃ r0 : Int, ∃ r1 : Bool, e = .returned (.tuple #[.int .i64 r0, .bool r1]) ∧ R r0 r1 w' := by
  refine Calls.mono (calls_of_cw (n := 42) (rs := #[.tmp 2, .tmp 3]) (args := [a0.v]) (R := fun v w' => ∃ r0 : Int, ∃ r1 : Bool, v = .tuple #[.int .i64 r0, .bool r1] ∧ R r0 r1 w') Try.func71 rfl rfl (Nat.le_of_ble_eq_true rfl) rfl ?_) ?_
  case refine_2 => rintro e w' ⟨v, rfl, hr⟩; obtain ⟨r0, r1, rfl, hr⟩ := hr; exact ⟨r0, r1, rfl, hr⟩
  have hx : Ext w w := Chg.refl _
  unfold VC_ref08_Weight at h
  refine cw_seq ?_
  refine cw_region ?_
  refine sl_v rfl (r_as rfl) ?_
  refine sl_v rfl (r_as rfl) ?_
  refine sl_nil ?_
  refine cw_seq ?_
  refine cw_region ?_
  refine sl_v rfl (r_as rfl) ?_
  refine sl_nil ?_
  refine cw_seq ?_
  refine cw_seq ?_
  refine cw_region ?_
  refine sl_v rfl (r_as rfl) ?_
  refine sl_nil ?_
  refine cw_block ?_
  obtain ⟨I3, μ4, hI5, h⟩ := h
  refine cw_loop (σ := Int × Int) (fun s g => (upd (upd (upd (nm g []) 0 (a0.v)) 4 (.int .i64 s.1)) 5 (.int .i64 s.2))) (fun s w => I3 s.1 s.2 w) (fun s w => μ4 s.1 s.2 w) (0, 0) _ (kp (kp (kp (kn rfl) rfl) rfl) rfl) hI5 ?_
  rintro ⟨l1, l2⟩ g7 w6 hi8
  replace h := h l1 l2 w6 hi8
  have hx : Ext w6 w6 := Chg.refl _
  change CW _ PP _ _ _ (upd (upd (upd (nm g7 []) 0 (a0.v)) 4 (.int .i64 l1)) 5 (.int .i64 l2)) _
  refine cw_seq ?_
  refine cw_seq ?_
  refine cw_region ?_
  refine sl_v rfl (r_mv rfl) ?_
  refine sl_v rfl (r_mv rfl) ?_
  refine sl_v rfl (r_len_l (s := a0) rfl rfl Try.underlying46) ?_
  refine sl_v rfl (r_lss rfl rfl) ?_
  refine sl_nil ?_
  refine bcases (decide (l2 < ((a0.n : Nat) : Int))) (fun hb9 => ?_) (fun hb9 => ?_)
  · replace h := h.1 (of_decide_eq_true hb9)
    refine cw_ct rfl hb9 ?_
    refine cw_skip ?_
    refine cw_seq ?_
    refine cw_block ?_
    refine cw_seq ?_
    obtain ⟨k10, rfl, hk11, h⟩ := h
    obtain ⟨b12, o13, hb14, h⟩ := h
    obtain ⟨v15, hc16, h⟩ := h
    obtain ⟨v17, hc18, h⟩ := h
    obtain ⟨z19, hz19, h⟩ := h
    refine cw_dw (S := fun w' => w'.cell? ⟨b12, o13 + k10 * 2 + 1, none⟩ = some (.int .i64 v15) ∧ w'.cell? ⟨b12, o13 + k10 * 2, none⟩ = some (.string v17) ∧ True) mo (fun w20 hd21 => ?_)
    replace hx := hx.tr (Ext.of_drew hd21)
    have hS : w20.cell? ⟨b12, o13 + k10 * 2 + 1, none⟩ = some (.int .i64 v15) ∧ w20.cell? ⟨b12, o13 + k10 * 2, none⟩ = some (.string v17) ∧ True := ⟨hx.cell hc16, hx.cell hc18, trivial⟩
    refine dw_t 0 1 rfl (by kernel_rfl) rfl hS (fun _ _ => (r_mv rfl)) ?_
    refine dw_t 1 3 rfl (by kernel_rfl) rfl hS (fun _ _ => (r_mv rfl)) ?_
    refine dw_t 2 7 rfl (by kernel_rfl) rfl hS (fun _ _ => (ia_sl_api_Word (s := a0) (j := k10) (o' := o13 + k10 * 2) rfl rfl hk11 hb14 rfl)) ?_
    refine dw_t 3 15 rfl (by kernel_rfl) rfl hS (fun _ _ => (fa_api_Word_1 (o' := o13 + k10 * 2 + 1) rfl rfl)) ?_
    refine dw_t 4 31 rfl (by kernel_rfl) rfl hS (fun _ hS => (ld_int rfl hS.1)) ?_
    refine dw_t 5 63 rfl (by kernel_rfl) rfl hS (fun _ _ => (r_mv rfl)) ?_
    refine dw_t 6 127 rfl (by kernel_rfl) rfl hS (fun _ _ => (r_mv rfl)) ?_
    refine dw_t 7 255 rfl (by kernel_rfl) rfl hS (fun _ _ => (ia_sl_api_Word (s := a0) (j := k10) (o' := o13 + k10 * 2) rfl rfl hk11 hb14 rfl)) ?_
    refine dw_t 8 511 rfl (by kernel_rfl) rfl hS (fun _ _ => (fa_api_Word_0 (o' := o13 + k10 * 2) rfl rfl)) ?_
    refine dw_t 9 1023 rfl (by kernel_rfl) rfl hS (fun _ hS => (ld_string rfl hS.2.1)) ?_
    refine dw_t 10 2047 rfl (by kernel_rfl) rfl hS (fun _ _ => (r_len_s rfl rfl Try.underlying9)) ?_
    refine dw_t 11 4095 rfl (by kernel_rfl) rfl hS (fun _ _ => (r_sub rfl rfl hz19)) ?_
    refine dw_t 12 8191 rfl (by kernel_rfl) rfl hS (fun _ _ => (r_max rfl rfl)) ?_
    replace h := h _ hx
    replace hx : Ext w20 w20 := Chg.refl _
    refine dw_l 13 16383 rfl (by kernel_rfl) rfl (ok_call c_ref06_Mul rfl (Calls.mono h (fun e23 w24 hq25 => ?_)))
    clear h
    obtain ⟨r27_0, r27_1, he26, h⟩ := hq25
    refine ⟨_, he26, ?_⟩
    replace hx : Ext w24 w24 := Chg.refl _
    obtain ⟨hq28, h⟩ := h
    obtain ⟨hq29, h⟩ := h
    replace hS : w24.cell? ⟨b12, o13 + k10 * 2 + 1, none⟩ = some (.int .i64 v15) ∧ w24.cell? ⟨b12, o13 + k10 * 2, none⟩ = some (.string v17) ∧ True := ⟨hq28, hq29, trivial⟩
    refine ⟨hS, ?_⟩
    refine dw_t 14 32767 rfl (by kernel_rfl) rfl hS (fun _ _ => (r_mv rfl)) ?_
    refine dw_t 15 65535 rfl (by kernel_rfl) rfl hS (fun _ _ => (r_ex rfl rfl)) ?_
    refine dw_t 16 131071 rfl (by kernel_rfl) rfl hS (fun _ _ => (r_ex rfl rfl)) ?_
    refine dw_t 17 262143 rfl (by kernel_rfl) rfl hS (fun _ _ => (r_as rfl)) ?_
    refine dw_t 18 524287 rfl (by kernel_rfl) rfl hS (fun _ _ => (r_as rfl)) ?_
    refine dw_d (by kernel_rfl) ?_
    clear hS
    refine cw_seq ?_
    refine cw_seq ?_
    refine cw_region ?_
    refine sl_v rfl (r_mv rfl) ?_
    refine sl_v rfl (r_not rfl) ?_
    refine sl_nil ?_
    refine bcases (r27_1) (fun hb30 => ?_) (fun hb30 => ?_)
    · replace h := h.1 hb30
      refine cw_cf rfl (nt hb30) ?_
      refine cw_skip ?_
      refine cw_seq ?_
      refine cw_region ?_
      refine sl_v rfl (r_mv rfl) ?_
      refine sl_v rfl (r_mv rfl) ?_
      refine sl_op rfl (ok_call c_ref06_Add rfl (Calls.mono h (fun e31 w32 hq33 => ?_)))
      clear h
      obtain ⟨r35_0, r35_1, he34, h⟩ := hq33
      refine ⟨_, he34, ?_⟩
      replace hx : Ext w32 w32 := Chg.refl _
      refine sl_v rfl (r_mv rfl) ?_
      refine sl_v rfl (r_ex rfl rfl) ?_
      refine sl_v rfl (r_ex rfl rfl) ?_
      refine sl_v rfl (r_as rfl) ?_
      refine sl_v rfl (r_as rfl) ?_
      refine sl_nil ?_
      refine cw_seq ?_
      refine cw_region ?_
      refine sl_v rfl (r_mv rfl) ?_
      refine sl_v rfl (r_not rfl) ?_
      refine sl_nil ?_
      refine bcases (r35_1) (fun hb36 => ?_) (fun hb36 => ?_)
      · replace h := h.1 hb36
        refine cw_cf rfl (nt hb36) ?_
        refine cw_skip ?_
        refine cw_region ?_
        refine sl_v rfl (r_mv rfl) ?_
        obtain ⟨z37, hz37, h⟩ := h
        refine sl_v rfl (r_add rfl rfl hz37) ?_
        refine sl_v rfl (r_as rfl) ?_
        refine sl_nil ?_
        exact ⟨(r35_0, z37), _, (kp (kp (kp (kn rfl) rfl) rfl) rfl), h.1, h.2⟩
      · replace h := h.2 hb36
        refine cw_ct rfl (nf hb36) ?_
        refine cw_seq ?_
        refine cw_region ?_
        refine sl_v rfl (r_as rfl) ?_
        refine sl_v rfl (r_as rfl) ?_
        refine sl_nil ?_
        refine cw_ret ?_
        exact rs_2 (rt rfl) (rt rfl) ⟨0, false, rfl, h⟩
    · replace h := h.2 hb30
      refine cw_ct rfl (nf hb30) ?_
      refine cw_seq ?_
      refine cw_region ?_
      refine sl_v rfl (r_as rfl) ?_
      refine sl_v rfl (r_as rfl) ?_
      refine sl_nil ?_
      refine cw_ret ?_
      exact rs_2 (rt rfl) (rt rfl) ⟨0, false, rfl, h⟩
  · replace h := h.2 (of_decide_eq_false hb9)
    refine cw_cf rfl hb9 ?_
    refine cw_exit ?_
    refine cw_seq ?_
    refine cw_region ?_
    refine sl_v rfl (r_mv rfl) ?_
    refine sl_v rfl (r_as rfl) ?_
    refine sl_v rfl (r_as rfl) ?_
    refine sl_nil ?_
    refine cw_ret ?_
    exact rs_2 (rt rfl) (rt rfl) ⟨l1, true, rfl, h⟩

def VC_ref16_Count (a0 : Sl) (a1 : Sl) (a2_0 : ByteArray) (a2_1 : ByteArray) (R : Int → World → Prop) (w : World) : Prop :=
  ∀ (b1 : Nat) (w2 : World), Priv w b1 w2 → (∃ (I7 : Int → Int → World → Prop) (μ8 : Int → Int → World → Nat), I7 0 0 w2 ∧ ∀ (l5 : Int) (l6 : Int) (w10 : World), I7 l5 l6 w10 → ((l6 < ((a0.n : Nat) : Int) → ((l6 < ((a1.n : Nat) : Int) → (∃ k16 : Nat, l6 = ((k16 : Nat) : Int) ∧ k16 < a1.n ∧ (∃ (b18 o19 : Nat), a1.b = some ⟨b18, o19, none⟩ ∧ (∃ v21 : Int, w10.cell? ⟨b18, o19 + k16 * 1, none⟩ = some (.int .i64 v21) ∧ ((v21 < (1 : Int) → (∃ z24 : Int, z24 = IntKind.wrap .i64 (((k16 : Nat) : Int) + 1) ∧ (I7 l5 z24 w10 ∧ μ8 l5 z24 w10 < μ8 l5 l6 w10))) ∧ (¬ (v21 < (1 : Int)) → (∃ (I27 : Int → Int → World → Prop) (μ28 : Int → Int → World → Nat), I27 l5 0 w10 ∧ ∀ (l25 : Int) (l26 : Int) (w30 : World), I27 l25 l26 w30 → (∃ z34 : Int, z34 = IntKind.wrap .i64 (l26 + 1) ∧ (k16 < a0.n ∧ (∃ (b36 o37 : Nat), a0.b = some ⟨b36, o37, none⟩ ∧ (∃ v39 : Sl, w30.cell? ⟨b36, o37 + k16 * 1, none⟩ = some (v39.v) ∧ ((z34 < ((v39.n : Nat) : Int) → (∃ K43 : Bool → World → Prop, (∀ (j42 : Bool) (w45 : World), K43 j42 w45 → ((j42 = true → (k16 < a1.n ∧ (∃ (b68 o69 : Nat), a1.b = some ⟨b68, o69, none⟩ ∧ (∃ v71 : Int, w45.cell? ⟨b68, o69 + k16 * 1, none⟩ = some (.int .i64 v71) ∧ (∃ z73 : Int, z73 = IntKind.wrap .i64 (l25 + v71) ∧ (∃ z74 : Int, z74 = IntKind.wrap .i64 (l26 + 1) ∧ (I27 z73 z74 w45 ∧ μ28 z73 z74 w45 < μ28 l25 l26 w30))))))) ∧ (j42 = false → (∃ z75 : Int, z75 = IntKind.wrap .i64 (l26 + 1) ∧ (I27 l25 z75 w45 ∧ μ28 l25 z75 w45 < μ28 l25 l26 w30))))) ∧ (∃ k50 : Nat, l26 = ((k50 : Nat) : Int) ∧ k50 < v39.n ∧ (∃ (b52 o53 : Nat), v39.b = some ⟨b52, o53, none⟩ ∧ (∃ v55 : ByteArray, w30.cell? ⟨b52, o53 + k50 * 1, none⟩ = some (.string v55) ∧ ((v55 = a2_0 → (∃ z58 : Int, z58 = IntKind.wrap .i64 (((k50 : Nat) : Int) + 1) ∧ (∃ k59 : Nat, z58 = ((k59 : Nat) : Int) ∧ k59 < v39.n ∧ (∃ v61 : ByteArray, w30.cell? ⟨b52, o53 + k59 * 1, none⟩ = some (.string v61) ∧ (∀ w48 : World, Ext w30 w48 → (K43 (decide (v61 = a2_1)) w48)))))) ∧ (¬ (v55 = a2_0) → (∀ w48 : World, Ext w30 w48 → (K43 false w48))))))))) ∧ (¬ (z34 < ((v39.n : Nat) : Int)) → (∃ z76 : Int, z76 = IntKind.wrap .i64 (((k16 : Nat) : Int) + 1) ∧ (I7 l25 z76 w30 ∧ μ8 l25 z76 w30 < μ8 l5 l6 w10))))))))))))))) ∧ (¬ (l6 < ((a1.n : Nat) : Int)) → (R l5 w10)))) ∧ (¬ (l6 < ((a0.n : Nat) : Int)) → (R l5 w10))))
set_option maxRecDepth 100000 in
theorem vc_ref16_Count {a0 : Sl} {a1 : Sl} {a2_0 : ByteArray} {a2_1 : ByteArray} {R : Int → World → Prop} {w : World} (h : VC_ref16_Count a0 a1 a2_0 a2_1 R w) : Calls PP n_ref16_Count #[a0.v, a1.v, .agg #[.string a2_0, .string a2_1]] w fun e w' => ∃ r0 : Int, e = .returned (.int .i64 r0) ∧ R r0 w' := by
  refine Calls.mono (calls_of_cw (n := 67) (rs := #[.tmp 6]) (args := [a0.v, a1.v, .agg #[.string a2_0, .string a2_1]]) (R := fun v w' => ∃ r0 : Int, v = .int .i64 r0 ∧ R r0 w') Try.func72 rfl rfl (Nat.le_of_ble_eq_true rfl) rfl ?_) ?_
  case refine_2 => rintro e w' ⟨v, rfl, hr⟩; obtain ⟨r0, rfl, hr⟩ := hr; exact ⟨r0, rfl, hr⟩
  have hx : Ext w w := Chg.refl _
  unfold VC_ref16_Count at h
  refine cw_seq ?_
  refine cw_region ?_
  refine sl_op rfl (bx_api_Merge rfl rfl (fun b1 w2 hN3 => ?_))
  have hB4 := hN3.here
  replace h := h b1 w2 ⟨hx.tr hN3.ext, Nat.le_trans hx.size hN3.fresh, lt_of_blk hN3.here⟩
  replace hx : Ext w2 w2 := Chg.refl _
  refine sl_v rfl (r_as rfl) ?_
  refine sl_nil ?_
  refine cw_seq ?_
  refine cw_region ?_
  refine sl_v rfl (r_as rfl) ?_
  refine sl_nil ?_
  refine cw_seq ?_
  refine cw_seq ?_
  refine cw_region ?_
  refine sl_v rfl (r_as rfl) ?_
  refine sl_nil ?_
  refine cw_block ?_
  obtain ⟨I7, μ8, hI9, h⟩ := h
  refine cw_loop (σ := Int × Int) (fun s g => (upd (upd (upd (upd (upd (nm g []) 0 (a0.v)) 1 (a1.v)) 5 (.pointer (some ⟨b1, 0, none⟩))) 7 (.int .i64 s.1)) 8 (.int .i64 s.2))) (fun s w => w.heap[b1]? = some (.cells #[.string a2_0, .string a2_1] t_api_Merge (0, 0)) ∧ I7 s.1 s.2 w) (fun s w => μ8 s.1 s.2 w) (0, 0) _ (kp (kp (kp (kp (kp (kn rfl) rfl) rfl) rfl) rfl) rfl) ⟨hB4, hI9⟩ ?_
  rintro ⟨l5, l6⟩ g11 w10 ⟨hB13, hi12⟩
  replace h := h l5 l6 w10 hi12
  have hx : Ext w10 w10 := Chg.refl _
  change CW _ PP _ _ _ (upd (upd (upd (upd (upd (nm g11 []) 0 (a0.v)) 1 (a1.v)) 5 (.pointer (some ⟨b1, 0, none⟩))) 7 (.int .i64 l5)) 8 (.int .i64 l6)) _
  refine cw_seq ?_
  refine cw_seq ?_
  refine cw_region ?_
  refine sl_v rfl (r_mv rfl) ?_
  refine sl_v rfl (r_mv rfl) ?_
  refine sl_v rfl (r_len_l (s := a0) rfl rfl Try.underlying53) ?_
  refine sl_v rfl (r_lss rfl rfl) ?_
  refine sl_v rfl (r_mv rfl) ?_
  refine bcases (decide (l6 < ((a0.n : Nat) : Int))) (fun hb14 => ?_) (fun hb14 => ?_)
  · replace h := h.1 (of_decide_eq_true hb14)
    refine sl_vg rfl rfl rfl hb14 (r_mv rfl) ?_
    refine sl_vg rfl rfl rfl hb14 (r_mv rfl) ?_
    refine sl_vg rfl rfl rfl hb14 (r_len_l (s := a1) rfl rfl Try.underlying58) ?_
    refine sl_vg rfl rfl rfl hb14 (r_lss rfl rfl) ?_
    refine sl_v rfl (r_pt rfl hb14 rfl) ?_
    refine sl_nil ?_
    refine bcases (decide (l6 < ((a1.n : Nat) : Int))) (fun hb15 => ?_) (fun hb15 => ?_)
    · replace h := h.1 (of_decide_eq_true hb15)
      refine cw_ct rfl hb15 ?_
      refine cw_skip ?_
      refine cw_seq ?_
      refine cw_block ?_
      refine cw_seq ?_
      refine cw_seq ?_
      refine cw_region ?_
      refine sl_v rfl (r_mv rfl) ?_
      refine sl_v rfl (r_mv rfl) ?_
      obtain ⟨k16, rfl, hk17, h⟩ := h
      obtain ⟨b18, o19, hb20, h⟩ := h
      refine sl_v rfl (ia_sl_int (s := a1) (j := k16) (o' := o19 + k16 * 1) rfl rfl hk17 hb20 rfl) ?_
      obtain ⟨v21, hc22, h⟩ := h
      refine sl_v rfl (ld_int rfl hc22) ?_
      refine sl_v rfl (r_lss rfl rfl) ?_
      refine sl_nil ?_
      refine bcases (decide (v21 < (1 : Int))) (fun hb23 => ?_) (fun hb23 => ?_)
      · replace h := h.1 (of_decide_eq_true hb23)
        refine cw_ct rfl hb23 ?_
        refine cw_exit ?_
        refine cw_region ?_
        refine sl_v rfl (r_mv rfl) ?_
        obtain ⟨z24, hz24, h⟩ := h
        refine sl_v rfl (r_add rfl rfl hz24) ?_
        refine sl_v rfl (r_as rfl) ?_
        refine sl_nil ?_
        exact ⟨(l5, z24), _, (kp (kp (kp (kp (kp (kn rfl) rfl) rfl) rfl) rfl) rfl), ⟨hB13, h.1⟩, h.2⟩
      · replace h := h.2 (of_decide_eq_false hb23)
        refine cw_cf rfl hb23 ?_
        refine cw_skip ?_
        refine cw_seq ?_
        refine cw_region ?_
        refine sl_v rfl (r_as rfl) ?_
        refine sl_nil ?_
        refine cw_block ?_
        obtain ⟨I27, μ28, hI29, h⟩ := h
        refine cw_loop (σ := Int × Int) (fun s g => (upd (upd (upd (upd (upd (upd (upd (upd (upd (upd (nm g []) 0 (a0.v)) 1 (a1.v)) 5 (.pointer (some ⟨b1, 0, none⟩))) 7 (.int .i64 s.1)) 8 (.int .i64 ((k16 : Nat) : Int))) 9 (.int .i64 s.2)) 15 (.int .i64 ((k16 : Nat) : Int))) 16 (a1.v)) 17 (.int .i64 ((a1.n : Nat) : Int))) 18 (.bool (decide (((k16 : Nat) : Int) < ((a1.n : Nat) : Int)))))) (fun s w => w.heap[b1]? = some (.cells #[.string a2_0, .string a2_1] t_api_Merge (0, 0)) ∧ I27 s.1 s.2 w) (fun s w => μ28 s.1 s.2 w) (l5, 0) _ (kp (kp (kp (kp (kp (kp (kp (kp (kp (kp (kn rfl) rfl) rfl) rfl) rfl) rfl) rfl) rfl) rfl) rfl) rfl) ⟨hB13, hI29⟩ ?_
        rintro ⟨l25, l26⟩ g31 w30 ⟨hB33, hi32⟩
        replace h := h l25 l26 w30 hi32
        have hx : Ext w30 w30 := Chg.refl _
        change CW _ PP _ _ _ (upd (upd (upd (upd (upd (upd (upd (upd (upd (upd (nm g31 []) 0 (a0.v)) 1 (a1.v)) 5 (.pointer (some ⟨b1, 0, none⟩))) 7 (.int .i64 l25)) 8 (.int .i64 ((k16 : Nat) : Int))) 9 (.int .i64 l26)) 15 (.int .i64 ((k16 : Nat) : Int))) 16 (a1.v)) 17 (.int .i64 ((a1.n : Nat) : Int))) 18 (.bool (decide (((k16 : Nat) : Int) < ((a1.n : Nat) : Int))))) _
        refine cw_seq ?_
        refine cw_seq ?_
        refine cw_region ?_
        refine sl_v rfl (r_mv rfl) ?_
        obtain ⟨z34, hz34, h⟩ := h
        refine sl_v rfl (r_add rfl rfl hz34) ?_
        refine sl_v rfl (r_mv rfl) ?_
        refine sl_v rfl (r_mv rfl) ?_
        obtain ⟨hk35, h⟩ := h
        obtain ⟨b36, o37, hb38, h⟩ := h
        refine sl_v rfl (ia_sl_sl_string (s := a0) (j := k16) (o' := o37 + k16 * 1) rfl rfl hk35 hb38 rfl) ?_
        obtain ⟨v39, hc40, h⟩ := h
        refine sl_v rfl (ld_sl_string rfl hc40) ?_
        refine sl_v rfl (r_len_l (s := v39) rfl rfl Try.underlying37) ?_
        refine sl_v rfl (r_lss rfl rfl) ?_
        refine sl_nil ?_
        refine bcases (decide (z34 < ((v39.n : Nat) : Int))) (fun hb41 => ?_) (fun hb41 => ?_)
        · replace h := h.1 (of_decide_eq_true hb41)
          refine cw_ct rfl hb41 ?_
          refine cw_skip ?_
          refine cw_seq ?_
          refine cw_block ?_
          obtain ⟨K43, hK44, h⟩ := h
          refine cw_mid (fun f w => ∃ (g : Env) (j42 : Bool), f = (upd (upd (upd (upd (upd (upd (upd (upd (upd (upd (upd (nm g []) 0 (a0.v)) 1 (a1.v)) 5 (.pointer (some ⟨b1, 0, none⟩))) 7 (.int .i64 l25)) 8 (.int .i64 ((k16 : Nat) : Int))) 9 (.int .i64 l26)) 15 (.int .i64 ((k16 : Nat) : Int))) 16 (a1.v)) 17 (.int .i64 ((a1.n : Nat) : Int))) 18 (.bool (decide (((k16 : Nat) : Int) < ((a1.n : Nat) : Int))))) 59 (.bool j42)) ∧ w.heap[b1]? = some (.cells #[.string a2_0, .string a2_1] t_api_Merge (0, 0)) ∧ K43 j42 w) ?_ (fun _ w45 hM47 => ?_)
          ·
            refine cw_still mo (by kernel_rfl) (fun w48 hd49 => ?_)
            replace hB33 := (Ext.of_drew hd49).get hB33
            replace hx := hx.tr (Ext.of_drew hd49)
            refine st_v rfl (r_mv rfl) ?_
            refine st_v rfl (r_mv rfl) ?_
            refine st_v rfl (ia_sl_sl_string (s := a0) (j := k16) (o' := o37 + k16 * 1) rfl rfl hk35 hb38 rfl) ?_
            refine st_v rfl (ld_sl_string rfl (hx.cell hc40)) ?_
            refine st_v rfl (r_mv rfl) ?_
            obtain ⟨k50, rfl, hk51, h⟩ := h
            obtain ⟨b52, o53, hb54, h⟩ := h
            refine st_v rfl (ia_sl_string (s := v39) (j := k50) (o' := o53 + k50 * 1) rfl rfl hk51 hb54 rfl) ?_
            obtain ⟨v55, hc56, h⟩ := h
            refine st_v rfl (ld_string rfl (hx.cell hc56)) ?_
            refine st_v rfl (fa_api_Merge_0 (o' := 0) rfl rfl) ?_
            refine st_v rfl (ld_string rfl (cell_blk hB33 rfl)) ?_
            refine st_v rfl (s_eql rfl rfl) ?_
            refine st_v rfl (r_mv rfl) ?_
            refine bcases (decide (v55 = a2_0)) (fun hb57 => ?_) (fun hb57 => ?_)
            · replace h := h.1 (of_decide_eq_true hb57)
              refine st_vg rfl rfl rfl hb57 (r_mv rfl) ?_
              refine st_vg rfl rfl rfl hb57 (r_mv rfl) ?_
              refine st_vg rfl rfl rfl hb57 (ia_sl_sl_string (s := a0) (j := k16) (o' := o37 + k16 * 1) rfl rfl hk35 hb38 rfl) ?_
              refine st_vg rfl rfl rfl hb57 (ld_sl_string rfl (hx.cell hc40)) ?_
              refine st_vg rfl rfl rfl hb57 (r_mv rfl) ?_
              obtain ⟨z58, hz58, h⟩ := h
              refine st_vg rfl rfl rfl hb57 (r_add rfl rfl hz58) ?_
              obtain ⟨k59, rfl, hk60, h⟩ := h
              refine st_vg rfl rfl rfl hb57 (ia_sl_string (s := v39) (j := k59) (o' := o53 + k59 * 1) rfl rfl hk60 hb54 rfl) ?_
              obtain ⟨v61, hc62, h⟩ := h
              refine st_vg rfl rfl rfl hb57 (ld_string rfl (hx.cell hc62)) ?_
              refine st_vg rfl rfl rfl hb57 (fa_api_Merge_1 (o' := 1) rfl rfl) ?_
              refine st_vg rfl rfl rfl hb57 (ld_string rfl (cell_blk hB33 rfl)) ?_
              refine st_vg rfl rfl rfl hb57 (s_eql rfl rfl) ?_
              refine st_v rfl (r_pt rfl hb57 rfl) ?_
              refine st_nil ?_
              replace h := h _ hx
              replace hx : Ext w48 w48 := Chg.refl _
              exact ⟨_, decide (v61 = a2_1), (kp (kp (kp (kp (kp (kp (kp (kp (kp (kp (kp (kn rfl) rfl) rfl) rfl) rfl) rfl) rfl) rfl) rfl) rfl) rfl) rfl), hB33, h⟩
            · replace h := h.2 (of_decide_eq_false hb57)
              refine st_no rfl rfl rfl hb57 ?_
              refine st_no rfl rfl rfl hb57 ?_
              refine st_no rfl rfl rfl hb57 ?_
              refine st_no rfl rfl rfl hb57 ?_
              refine st_no rfl rfl rfl hb57 ?_
              refine st_no rfl rfl rfl hb57 ?_
              refine st_no rfl rfl rfl hb57 ?_
              refine st_no rfl rfl rfl hb57 ?_
              refine st_no rfl rfl rfl hb57 ?_
              refine st_no rfl rfl rfl hb57 ?_
              refine st_no rfl rfl rfl hb57 ?_
              refine st_v rfl (r_pf rfl hb57 rfl) ?_
              refine st_nil ?_
              replace h := h _ hx
              replace hx : Ext w48 w48 := Chg.refl _
              exact ⟨_, false, (kp (kp (kp (kp (kp (kp (kp (kp (kp (kp (kp (kn rfl) rfl) rfl) rfl) rfl) rfl) rfl) rfl) rfl) rfl) rfl) rfl), hB33, h⟩
          ·
            obtain ⟨g46, j42, rfl, hB65, hM47⟩ := hM47
            replace h := hK44 j42 w45 hM47
            have hx : Ext w45 w45 := Chg.refl _
            refine bcases (j42) (fun hb66 => ?_) (fun hb66 => ?_)
            · replace h := h.1 hb66
              refine cw_ct rfl hb66 ?_
              refine cw_region ?_
              refine sl_v rfl (r_mv rfl) ?_
              refine sl_v rfl (r_mv rfl) ?_
              refine sl_v rfl (r_mv rfl) ?_
              obtain ⟨hk67, h⟩ := h
              obtain ⟨b68, o69, hb70, h⟩ := h
              refine sl_v rfl (ia_sl_int (s := a1) (j := k16) (o' := o69 + k16 * 1) rfl rfl hk67 hb70 rfl) ?_
              obtain ⟨v71, hc72, h⟩ := h
              refine sl_v rfl (ld_int rfl hc72) ?_
              obtain ⟨z73, hz73, h⟩ := h
              refine sl_v rfl (r_add rfl rfl hz73) ?_
              refine sl_v rfl (r_as rfl) ?_
              refine sl_nil ?_
              refine cw_region ?_
              refine sl_v rfl (r_mv rfl) ?_
              obtain ⟨z74, hz74, h⟩ := h
              refine sl_v rfl (r_add rfl rfl hz74) ?_
              refine sl_v rfl (r_as rfl) ?_
              refine sl_nil ?_
              exact ⟨(z73, z74), _, (kp (kp (kp (kp (kp (kp (kp (kp (kp (kp (kn rfl) rfl) rfl) rfl) rfl) rfl) rfl) rfl) rfl) rfl) rfl), ⟨hB65, h.1⟩, h.2⟩
            · replace h := h.2 hb66
              refine cw_cf rfl hb66 ?_
              refine cw_skip ?_
              refine cw_region ?_
              refine sl_v rfl (r_mv rfl) ?_
              obtain ⟨z75, hz75, h⟩ := h
              refine sl_v rfl (r_add rfl rfl hz75) ?_
              refine sl_v rfl (r_as rfl) ?_
              refine sl_nil ?_
              exact ⟨(l25, z75), _, (kp (kp (kp (kp (kp (kp (kp (kp (kp (kp (kn rfl) rfl) rfl) rfl) rfl) rfl) rfl) rfl) rfl) rfl) rfl), ⟨hB65, h.1⟩, h.2⟩
        · replace h := h.2 (of_decide_eq_false hb41)
          refine cw_cf rfl hb41 ?_
          refine cw_exit ?_
          refine cw_region ?_
          refine sl_v rfl (r_mv rfl) ?_
          obtain ⟨z76, hz76, h⟩ := h
          refine sl_v rfl (r_add rfl rfl hz76) ?_
          refine sl_v rfl (r_as rfl) ?_
          refine sl_nil ?_
          exact ⟨(l25, z76), _, (kp (kp (kp (kp (kp (kn rfl) rfl) rfl) rfl) rfl) rfl), ⟨hB33, h.1⟩, h.2⟩
    · replace h := h.2 (of_decide_eq_false hb15)
      refine cw_cf rfl hb15 ?_
      refine cw_exit ?_
      refine cw_seq ?_
      refine cw_region ?_
      refine sl_v rfl (r_mv rfl) ?_
      refine sl_v rfl (r_as rfl) ?_
      refine sl_nil ?_
      refine cw_ret ?_
      exact rs_1 (rt rfl) ⟨l5, rfl, h⟩
  · replace h := h.2 (of_decide_eq_false hb14)
    refine sl_no rfl rfl rfl hb14 ?_
    refine sl_no rfl rfl rfl hb14 ?_
    refine sl_no rfl rfl rfl hb14 ?_
    refine sl_no rfl rfl rfl hb14 ?_
    refine sl_v rfl (r_pf rfl hb14 rfl) ?_
    refine sl_nil ?_
    refine cw_cf rfl rfl ?_
    refine cw_exit ?_
    refine cw_seq ?_
    refine cw_region ?_
    refine sl_v rfl (r_mv rfl) ?_
    refine sl_v rfl (r_as rfl) ?_
    refine sl_nil ?_
    refine cw_ret ?_
    exact rs_1 (rt rfl) ⟨l5, rfl, h⟩

def VC_checked_Mul (a0 : Int) (a1 : Int) (R : Int → Bool → World → Prop) (w : World) : Prop :=
  ∃ K2 : Bool → World → Prop, (∀ (j1 : Bool) (w4 : World), K2 j1 w4 → ((j1 = true → (R 0 false w4)) ∧ (j1 = false → (∃ z19 : Int, z19 = IntKind.wrap .u64 a0 ∧ (∃ z20 : Int, z20 = IntKind.wrap .u64 a1 ∧ (Calls PP n_math_bits_Mul64 #[.int .u64 z19, .int .u64 z20] w4 (fun e w22 => ∃ r25_0 : Int, ∃ r25_1 : Int, e = .returned (.tuple #[.int .u64 r25_0, .int .u64 r25_1]) ∧ (∃ K27 : Bool → World → Prop, (∀ (j26 : Bool) (w29 : World), K27 j26 w29 → ((j26 = true → (R 0 false w29)) ∧ (j26 = false → (∃ z34 : Int, z34 = IntKind.wrap .i64 r25_1 ∧ (R z34 true w29))))) ∧ ((r25_0 ≠ (0 : Int) → (K27 true w22)) ∧ (¬ (r25_0 ≠ (0 : Int)) → (K27 (decide ((9223372036854775807 : Int) < r25_1)) w22))))))))))) ∧ (Calls PP n_checked_within #[.int .i64 a0] w (fun e w8 => ∃ r11 : Bool, e = .returned (.bool r11) ∧ ((r11 = true → (Calls PP n_checked_within #[.int .i64 a1] w8 (fun e w14 => ∃ r17 : Bool, e = .returned (.bool r17) ∧ (K2 (!r17) w14)))) ∧ (r11 = false → (K2 true w8)))))
set_option maxRecDepth 100000 in
theorem vc_checked_Mul {a0 : Int} {a1 : Int} {R : Int → Bool → World → Prop} {w : World} (h : VC_checked_Mul a0 a1 R w) : Calls PP n_checked_Mul #[.int .i64 a0, .int .i64 a1] w fun e w' => ∃ r0 : Int, ∃ r1 : Bool, e = .returned (.tuple #[.int .i64 r0, .bool r1]) ∧ R r0 r1 w' := by
  refine Calls.mono (calls_of_cw (n := 32) (rs := #[.tmp 4, .tmp 5]) (args := [.int .i64 a0, .int .i64 a1]) (R := fun v w' => ∃ r0 : Int, ∃ r1 : Bool, v = .tuple #[.int .i64 r0, .bool r1] ∧ R r0 r1 w') Try.func74 rfl rfl (Nat.le_of_ble_eq_true rfl) rfl ?_) ?_
  case refine_2 => rintro e w' ⟨v, rfl, hr⟩; obtain ⟨r0, r1, rfl, hr⟩ := hr; exact ⟨r0, r1, rfl, hr⟩
  have hx : Ext w w := Chg.refl _
  unfold VC_checked_Mul at h
  refine cw_seq ?_
  refine cw_region ?_
  refine sl_v rfl (r_as rfl) ?_
  refine sl_v rfl (r_as rfl) ?_
  refine sl_nil ?_
  refine cw_seq ?_
  obtain ⟨K2, hK3, h⟩ := h
  refine cw_mid (fun f w => ∃ (g : Env) (j1 : Bool), f = (upd (upd (upd (nm g []) 0 (.int .i64 a0)) 1 (.int .i64 a1)) 15 (.bool j1)) ∧ K2 j1 w) ?_ (fun _ w4 hM6 => ?_)
  ·
    refine cw_region ?_
    refine sl_v rfl (r_mv rfl) ?_
    refine sl_op rfl (ok_call c_checked_within rfl (Calls.mono h (fun e7 w8 hq9 => ?_)))
    clear h
    obtain ⟨r11, he10, h⟩ := hq9
    refine ⟨_, he10, ?_⟩
    replace hx : Ext w8 w8 := Chg.refl _
    refine sl_v rfl (r_not rfl) ?_
    refine sl_v rfl (r_mv rfl) ?_
    refine bcases (r11) (fun hb12 => ?_) (fun hb12 => ?_)
    · replace h := h.1 hb12
      refine sl_vg rfl rfl rfl (nt hb12) (r_mv rfl) ?_
      refine sl_g rfl rfl rfl (nt hb12) (ok_call c_checked_within rfl (Calls.mono h (fun e13 w14 hq15 => ?_)))
      clear h
      obtain ⟨r17, he16, h⟩ := hq15
      refine ⟨_, he16, ?_⟩
      replace hx : Ext w14 w14 := Chg.refl _
      refine sl_vg rfl rfl rfl (nt hb12) (r_not rfl) ?_
      refine sl_v rfl (r_pf rfl (nt hb12) rfl) ?_
      refine sl_nil ?_
      exact ⟨_, !r17, (kp (kp (kp (kn rfl) rfl) rfl) rfl), h⟩
    · replace h := h.2 hb12
      refine sl_no rfl rfl rfl (nf hb12) ?_
      refine sl_no rfl rfl rfl (nf hb12) ?_
      refine sl_no rfl rfl rfl (nf hb12) ?_
      refine sl_v rfl (r_pt rfl (nf hb12) rfl) ?_
      refine sl_nil ?_
      exact ⟨_, true, (kp (kp (kp (kn rfl) rfl) rfl) rfl), h⟩
  ·
    obtain ⟨g5, j1, rfl, hM6⟩ := hM6
    replace h := hK3 j1 w4 hM6
    have hx : Ext w4 w4 := Chg.refl _
    refine bcases (j1) (fun hb18 => ?_) (fun hb18 => ?_)
    · replace h := h.1 hb18
      refine cw_ct rfl hb18 ?_
      refine cw_seq ?_
      refine cw_region ?_
      refine sl_v rfl (r_as rfl) ?_
      refine sl_v rfl (r_as rfl) ?_
      refine sl_nil ?_
      refine cw_ret ?_
      exact rs_2 (rt rfl) (rt rfl) ⟨0, false, rfl, h⟩
    · replace h := h.2 hb18
      refine cw_cf rfl hb18 ?_
      refine cw_skip ?_
      refine cw_seq ?_
      refine cw_region ?_
      refine sl_v rfl (r_mv rfl) ?_
      obtain ⟨z19, hz19, h⟩ := h
      refine sl_v rfl (r_ci (z := z19) rfl Try.underlying3 Try.underlying143 hz19) ?_
      refine sl_v rfl (r_mv rfl) ?_
      obtain ⟨z20, hz20, h⟩ := h
      refine sl_v rfl (r_ci (z := z20) rfl Try.underlying3 Try.underlying143 hz20) ?_
      refine sl_op rfl (ok_call c_math_bits_Mul64 rfl (Calls.mono h (fun e21 w22 hq23 => ?_)))
      clear h
      obtain ⟨r25_0, r25_1, he24, h⟩ := hq23
      refine ⟨_, he24, ?_⟩
      replace hx : Ext w22 w22 := Chg.refl _
      refine sl_v rfl (r_mv rfl) ?_
      refine sl_v rfl (r_ex rfl rfl) ?_
      refine sl_v rfl (r_ex rfl rfl) ?_
      refine sl_v rfl (r_as rfl) ?_
      refine sl_v rfl (r_as rfl) ?_
      refine sl_nil ?_
      refine cw_seq ?_
      obtain ⟨K27, hK28, h⟩ := h
      refine cw_mid (fun f w => ∃ (g : Env) (j26 : Bool), f = (upd (upd (nm g []) 7 (.int .u64 r25_1)) 29 (.bool j26)) ∧ K27 j26 w) ?_ (fun _ w29 hM31 => ?_)
      ·
        refine cw_region ?_
        refine sl_v rfl (r_mv rfl) ?_
        refine sl_v rfl (r_neq rfl rfl) ?_
        refine sl_v rfl (r_mv rfl) ?_
        refine bcases (decide (r25_0 ≠ (0 : Int))) (fun hb32 => ?_) (fun hb32 => ?_)
        · replace h := h.1 (of_decide_eq_true hb32)
          refine sl_no rfl rfl rfl hb32 ?_
          refine sl_no rfl rfl rfl hb32 ?_
          refine sl_v rfl (r_pt rfl hb32 rfl) ?_
          refine sl_nil ?_
          exact ⟨_, true, (kp (kp (kn rfl) rfl) rfl), h⟩
        · replace h := h.2 (of_decide_eq_false hb32)
          refine sl_vg rfl rfl rfl hb32 (r_mv rfl) ?_
          refine sl_vg rfl rfl rfl hb32 (r_gtr rfl rfl) ?_
          refine sl_v rfl (r_pf rfl hb32 rfl) ?_
          refine sl_nil ?_
          exact ⟨_, decide ((9223372036854775807 : Int) < r25_1), (kp (kp (kn rfl) rfl) rfl), h⟩
      ·
        obtain ⟨g30, j26, rfl, hM31⟩ := hM31
        replace h := hK28 j26 w29 hM31
        have hx : Ext w29 w29 := Chg.refl _
        refine bcases (j26) (fun hb33 => ?_) (fun hb33 => ?_)
        · replace h := h.1 hb33
          refine cw_ct rfl hb33 ?_
          refine cw_seq ?_
          refine cw_region ?_
          refine sl_v rfl (r_as rfl) ?_
          refine sl_v rfl (r_as rfl) ?_
          refine sl_nil ?_
          refine cw_ret ?_
          exact rs_2 (rt rfl) (rt rfl) ⟨0, false, rfl, h⟩
        · replace h := h.2 hb33
          refine cw_cf rfl hb33 ?_
          refine cw_skip ?_
          refine cw_seq ?_
          refine cw_region ?_
          refine sl_v rfl (r_mv rfl) ?_
          obtain ⟨z34, hz34, h⟩ := h
          refine sl_v rfl (r_ci (z := z34) rfl Try.underlying143 Try.underlying3 hz34) ?_
          refine sl_v rfl (r_as rfl) ?_
          refine sl_v rfl (r_as rfl) ?_
          refine sl_nil ?_
          refine cw_ret ?_
          exact rs_2 (rt rfl) (rt rfl) ⟨z34, true, rfl, h⟩

def VC_checked_Sum (a0 : Sl) (R : Int → Bool → World → Prop) (w : World) : Prop :=
  ∃ (I3 : Int → Int → World → Prop) (μ4 : Int → Int → World → Nat), I3 0 0 w ∧ ∀ (l1 : Int) (l2 : Int) (w6 : World), I3 l1 l2 w6 → ((l2 < ((a0.n : Nat) : Int) → (∃ k10 : Nat, l2 = ((k10 : Nat) : Int) ∧ k10 < a0.n ∧ (∃ (b12 o13 : Nat), a0.b = some ⟨b12, o13, none⟩ ∧ (∃ v15 : Int, w6.cell? ⟨b12, o13 + k10 * 1, none⟩ = some (.int .i64 v15) ∧ (Calls PP n_checked_Add #[.int .i64 l1, .int .i64 v15] w6 (fun e w18 => ∃ r21_0 : Int, ∃ r21_1 : Bool, e = .returned (.tuple #[.int .i64 r21_0, .bool r21_1]) ∧ ((r21_1 = true → (∃ z23 : Int, z23 = IntKind.wrap .i64 (((k10 : Nat) : Int) + 1) ∧ (I3 r21_0 z23 w18 ∧ μ4 r21_0 z23 w18 < μ4 l1 l2 w6))) ∧ (r21_1 = false → (R 0 false w18))))))))) ∧ (¬ (l2 < ((a0.n : Nat) : Int)) → (R l1 true w6)))
set_option maxRecDepth 100000 in
theorem vc_checked_Sum {a0 : Sl} {R : Int → Bool → World → Prop} {w : World} (h : VC_checked_Sum a0 R w) : Calls PP n_checked_Sum #[a0.v] w fun e w' => ∃ r0 : Int, ∃ r1 : Bool, e = .returned (.tuple #[.int .i64 r0, .bool r1]) ∧ R r0 r1 w' := by
  refine Calls.mono (calls_of_cw (n := 24) (rs := #[.tmp 2, .tmp 3]) (args := [a0.v]) (R := fun v w' => ∃ r0 : Int, ∃ r1 : Bool, v = .tuple #[.int .i64 r0, .bool r1] ∧ R r0 r1 w') Try.func75 rfl rfl (Nat.le_of_ble_eq_true rfl) rfl ?_) ?_
  case refine_2 => rintro e w' ⟨v, rfl, hr⟩; obtain ⟨r0, r1, rfl, hr⟩ := hr; exact ⟨r0, r1, rfl, hr⟩
  have hx : Ext w w := Chg.refl _
  unfold VC_checked_Sum at h
  refine cw_seq ?_
  refine cw_region ?_
  refine sl_v rfl (r_as rfl) ?_
  refine sl_v rfl (r_as rfl) ?_
  refine sl_nil ?_
  refine cw_seq ?_
  refine cw_region ?_
  refine sl_v rfl (r_as rfl) ?_
  refine sl_v rfl (r_as rfl) ?_
  refine sl_nil ?_
  refine cw_seq ?_
  refine cw_seq ?_
  refine cw_region ?_
  refine sl_v rfl (r_mv rfl) ?_
  refine sl_v rfl (r_len_l (s := a0) rfl rfl Try.underlying58) ?_
  refine sl_v rfl (r_mv rfl) ?_
  refine sl_nil ?_
  refine cw_block ?_
  obtain ⟨I3, μ4, hI5, h⟩ := h
  refine cw_loop (σ := Int × Int) (fun s g => (upd (upd (upd (upd (nm g []) 4 (.int .i64 s.1)) 8 (a0.v)) 9 (.int .i64 ((a0.n : Nat) : Int))) 10 (.int .i64 s.2))) (fun s w => I3 s.1 s.2 w) (fun s w => μ4 s.1 s.2 w) (0, 0) _ (kp (kp (kp (kp (kn rfl) rfl) rfl) rfl) rfl) hI5 ?_
  rintro ⟨l1, l2⟩ g7 w6 hi8
  replace h := h l1 l2 w6 hi8
  have hx : Ext w6 w6 := Chg.refl _
  change CW _ PP _ _ _ (upd (upd (upd (upd (nm g7 []) 4 (.int .i64 l1)) 8 (a0.v)) 9 (.int .i64 ((a0.n : Nat) : Int))) 10 (.int .i64 l2)) _
  refine cw_seq ?_
  refine cw_region ?_
  refine sl_v rfl (r_lss rfl rfl) ?_
  refine sl_nil ?_
  refine cw_seq ?_
  refine bcases (decide (l2 < ((a0.n : Nat) : Int))) (fun hb9 => ?_) (fun hb9 => ?_)
  · replace h := h.1 (of_decide_eq_true hb9)
    refine cw_ct rfl hb9 ?_
    refine cw_skip ?_
    refine cw_seq ?_
    refine cw_block ?_
    refine cw_seq ?_
    refine cw_region ?_
    obtain ⟨k10, rfl, hk11, h⟩ := h
    obtain ⟨b12, o13, hb14, h⟩ := h
    refine sl_v rfl (ia_sl_int (s := a0) (j := k10) (o' := o13 + k10 * 1) rfl rfl hk11 hb14 rfl) ?_
    obtain ⟨v15, hc16, h⟩ := h
    refine sl_v rfl (ld_int rfl hc16) ?_
    refine sl_v rfl (r_as rfl) ?_
    refine sl_nil ?_
    refine cw_seq ?_
    refine cw_region ?_
    refine sl_v rfl (r_mv rfl) ?_
    refine sl_v rfl (r_mv rfl) ?_
    refine sl_op rfl (ok_call c_checked_Add rfl (Calls.mono h (fun e17 w18 hq19 => ?_)))
    clear h
    obtain ⟨r21_0, r21_1, he20, h⟩ := hq19
    refine ⟨_, he20, ?_⟩
    replace hx : Ext w18 w18 := Chg.refl _
    refine sl_v rfl (r_mv rfl) ?_
    refine sl_v rfl (r_ex rfl rfl) ?_
    refine sl_v rfl (r_ex rfl rfl) ?_
    refine sl_v rfl (r_as rfl) ?_
    refine sl_v rfl (r_as rfl) ?_
    refine sl_nil ?_
    refine cw_seq ?_
    refine cw_region ?_
    refine sl_v rfl (r_mv rfl) ?_
    refine sl_v rfl (r_not rfl) ?_
    refine sl_nil ?_
    refine bcases (r21_1) (fun hb22 => ?_) (fun hb22 => ?_)
    · replace h := h.1 hb22
      refine cw_cf rfl (nt hb22) ?_
      refine cw_skip ?_
      refine cw_region ?_
      obtain ⟨z23, hz23, h⟩ := h
      refine sl_v rfl (r_add rfl rfl hz23) ?_
      refine sl_v rfl (r_mv rfl) ?_
      refine sl_nil ?_
      exact ⟨(r21_0, z23), _, (kp (kp (kp (kp (kn rfl) rfl) rfl) rfl) rfl), h.1, h.2⟩
    · replace h := h.2 hb22
      refine cw_ct rfl (nf hb22) ?_
      refine cw_seq ?_
      refine cw_region ?_
      refine sl_v rfl (r_as rfl) ?_
      refine sl_v rfl (r_as rfl) ?_
      refine sl_nil ?_
      refine cw_ret ?_
      exact rs_2 (rt rfl) (rt rfl) ⟨0, false, rfl, h⟩
  · replace h := h.2 (of_decide_eq_false hb9)
    refine cw_cf rfl hb9 ?_
    refine cw_exit ?_
    refine cw_seq ?_
    refine cw_region ?_
    refine sl_v rfl (r_mv rfl) ?_
    refine sl_v rfl (r_as rfl) ?_
    refine sl_v rfl (r_as rfl) ?_
    refine sl_nil ?_
    refine cw_ret ?_
    exact rs_2 (rt rfl) (rt rfl) ⟨l1, true, rfl, h⟩

def VC_ref06_Mul (a0 : Int) (a1 : Int) (R : Int → Bool → World → Prop) (w : World) : Prop :=
  ∃ K2 : Bool → World → Prop, (∀ (j1 : Bool) (w4 : World), K2 j1 w4 → ((j1 = true → (R 0 false w4)) ∧ (j1 = false → (∃ K10 : Bool → World → Prop, (∀ (j9 : Bool) (w12 : World), K10 j9 w12 → ((j9 = true → (R 0 false w12)) ∧ (j9 = false → (∃ z19 : Int, z19 = IntKind.wrap .i64 (a0 * a1) ∧ (R z19 true w12))))) ∧ (((0 : Int) < a1 → (a1 ≠ 0 ∧ (∃ z16 : Int, z16 = IntKind.wrap .i64 (Int.tdiv 9223372036854775807 a1) ∧ (K10 (decide (z16 < a0)) w4)))) ∧ (¬ ((0 : Int) < a1) → (K10 false w4))))))) ∧ ((a0 < (0 : Int) → (K2 true w)) ∧ (¬ (a0 < (0 : Int)) → (K2 (decide (a1 < (0 : Int))) w)))
set_option maxRecDepth 100000 in
theorem vc_ref06_Mul {a0 : Int} {a1 : Int} {R : Int → Bool → World → Prop} {w : World} (h : VC_ref06_Mul a0 a1 R w) : Calls PP n_ref06_Mul #[.int .i64 a0, .int .i64 a1] w fun e w' => ∃ r0 : Int, ∃ r1 : Bool, e = .returned (.tuple #[.int .i64 r0, .bool r1]) ∧ R r0 r1 w' := by
  refine Calls.mono (calls_of_cw (n := 23) (rs := #[.tmp 4, .tmp 5]) (args := [.int .i64 a0, .int .i64 a1]) (R := fun v w' => ∃ r0 : Int, ∃ r1 : Bool, v = .tuple #[.int .i64 r0, .bool r1] ∧ R r0 r1 w') Try.func76 rfl rfl (Nat.le_of_ble_eq_true rfl) rfl ?_) ?_
  case refine_2 => rintro e w' ⟨v, rfl, hr⟩; obtain ⟨r0, r1, rfl, hr⟩ := hr; exact ⟨r0, r1, rfl, hr⟩
  have hx : Ext w w := Chg.refl _
  unfold VC_ref06_Mul at h
  refine cw_seq ?_
  refine cw_region ?_
  refine sl_v rfl (r_as rfl) ?_
  refine sl_v rfl (r_as rfl) ?_
  refine sl_nil ?_
  refine cw_seq ?_
  obtain ⟨K2, hK3, h⟩ := h
  refine cw_mid (fun f w => ∃ (g : Env) (j1 : Bool), f = (upd (upd (upd (nm g []) 0 (.int .i64 a0)) 1 (.int .i64 a1)) 11 (.bool j1)) ∧ K2 j1 w) ?_ (fun _ w4 hM6 => ?_)
  ·
    refine cw_region ?_
    refine sl_v rfl (r_mv rfl) ?_
    refine sl_v rfl (r_lss rfl rfl) ?_
    refine sl_v rfl (r_mv rfl) ?_
    refine bcases (decide (a0 < (0 : Int))) (fun hb7 => ?_) (fun hb7 => ?_)
    · replace h := h.1 (of_decide_eq_true hb7)
      refine sl_no rfl rfl rfl hb7 ?_
      refine sl_no rfl rfl rfl hb7 ?_
      refine sl_v rfl (r_pt rfl hb7 rfl) ?_
      refine sl_nil ?_
      exact ⟨_, true, (kp (kp (kp (kn rfl) rfl) rfl) rfl), h⟩
    · replace h := h.2 (of_decide_eq_false hb7)
      refine sl_vg rfl rfl rfl hb7 (r_mv rfl) ?_
      refine sl_vg rfl rfl rfl hb7 (r_lss rfl rfl) ?_
      refine sl_v rfl (r_pf rfl hb7 rfl) ?_
      refine sl_nil ?_
      exact ⟨_, decide (a1 < (0 : Int)), (kp (kp (kp (kn rfl) rfl) rfl) rfl), h⟩
  ·
    obtain ⟨g5, j1, rfl, hM6⟩ := hM6
    replace h := hK3 j1 w4 hM6
    have hx : Ext w4 w4 := Chg.refl _
    refine bcases (j1) (fun hb8 => ?_) (fun hb8 => ?_)
    · replace h := h.1 hb8
      refine cw_ct rfl hb8 ?_
      refine cw_seq ?_
      refine cw_region ?_
      refine sl_v rfl (r_as rfl) ?_
      refine sl_v rfl (r_as rfl) ?_
      refine sl_nil ?_
      refine cw_ret ?_
      exact rs_2 (rt rfl) (rt rfl) ⟨0, false, rfl, h⟩
    · replace h := h.2 hb8
      refine cw_cf rfl hb8 ?_
      refine cw_skip ?_
      refine cw_seq ?_
      obtain ⟨K10, hK11, h⟩ := h
      refine cw_mid (fun f w => ∃ (g : Env) (j9 : Bool), f = (upd (upd (upd (nm g []) 0 (.int .i64 a0)) 1 (.int .i64 a1)) 19 (.bool j9)) ∧ K10 j9 w) ?_ (fun _ w12 hM14 => ?_)
      ·
        refine cw_region ?_
        refine sl_v rfl (r_mv rfl) ?_
        refine sl_v rfl (r_gtr rfl rfl) ?_
        refine sl_v rfl (r_mv rfl) ?_
        refine bcases (decide ((0 : Int) < a1)) (fun hb15 => ?_) (fun hb15 => ?_)
        · replace h := h.1 (of_decide_eq_true hb15)
          refine sl_vg rfl rfl rfl hb15 (r_mv rfl) ?_
          refine sl_vg rfl rfl rfl hb15 (r_mv rfl) ?_
          obtain ⟨hj17, z16, hz16, h⟩ := h
          refine sl_vg rfl rfl rfl hb15 (r_quo rfl rfl hj17 hz16) ?_
          refine sl_vg rfl rfl rfl hb15 (r_gtr rfl rfl) ?_
          refine sl_v rfl (r_pt rfl hb15 rfl) ?_
          refine sl_nil ?_
          exact ⟨_, decide (z16 < a0), (kp (kp (kp (kn rfl) rfl) rfl) rfl), h⟩
        · replace h := h.2 (of_decide_eq_false hb15)
          refine sl_no rfl rfl rfl hb15 ?_
          refine sl_no rfl rfl rfl hb15 ?_
          refine sl_no rfl rfl rfl hb15 ?_
          refine sl_no rfl rfl rfl hb15 ?_
          refine sl_v rfl (r_pf rfl hb15 rfl) ?_
          refine sl_nil ?_
          exact ⟨_, false, (kp (kp (kp (kn rfl) rfl) rfl) rfl), h⟩
      ·
        obtain ⟨g13, j9, rfl, hM14⟩ := hM14
        replace h := hK11 j9 w12 hM14
        have hx : Ext w12 w12 := Chg.refl _
        refine bcases (j9) (fun hb18 => ?_) (fun hb18 => ?_)
        · replace h := h.1 hb18
          refine cw_ct rfl hb18 ?_
          refine cw_seq ?_
          refine cw_region ?_
          refine sl_v rfl (r_as rfl) ?_
          refine sl_v rfl (r_as rfl) ?_
          refine sl_nil ?_
          refine cw_ret ?_
          exact rs_2 (rt rfl) (rt rfl) ⟨0, false, rfl, h⟩
        · replace h := h.2 hb18
          refine cw_cf rfl hb18 ?_
          refine cw_skip ?_
          refine cw_seq ?_
          refine cw_region ?_
          refine sl_v rfl (r_mv rfl) ?_
          refine sl_v rfl (r_mv rfl) ?_
          obtain ⟨z19, hz19, h⟩ := h
          refine sl_v rfl (r_mul rfl rfl hz19) ?_
          refine sl_v rfl (r_as rfl) ?_
          refine sl_v rfl (r_as rfl) ?_
          refine sl_nil ?_
          refine cw_ret ?_
          exact rs_2 (rt rfl) (rt rfl) ⟨z19, true, rfl, h⟩

def VC_ref06_Add (a0 : Int) (a1 : Int) (R : Int → Bool → World → Prop) (w : World) : Prop :=
  ∃ K2 : Bool → World → Prop, (∀ (j1 : Bool) (w4 : World), K2 j1 w4 → ((j1 = true → (R 0 false w4)) ∧ (j1 = false → (∃ z11 : Int, z11 = IntKind.wrap .i64 (a0 + a1) ∧ (R z11 true w4))))) ∧ ((a0 < (0 : Int) → (K2 true w)) ∧ (¬ (a0 < (0 : Int)) → ((a1 < (0 : Int) → (K2 true w)) ∧ (¬ (a1 < (0 : Int)) → (∃ z9 : Int, z9 = IntKind.wrap .i64 (a0 + a1) ∧ (K2 (decide (z9 < (0 : Int))) w))))))
set_option maxRecDepth 100000 in
theorem vc_ref06_Add {a0 : Int} {a1 : Int} {R : Int → Bool → World → Prop} {w : World} (h : VC_ref06_Add a0 a1 R w) : Calls PP n_ref06_Add #[.int .i64 a0, .int .i64 a1] w fun e w' => ∃ r0 : Int, ∃ r1 : Bool, e = .returned (.tuple #[.int .i64 r0, .bool r1]) ∧ R r0 r1 w' := by
  refine Calls.mono (calls_of_cw (n := 21) (rs := #[.tmp 4, .tmp 5]) (args := [.int .i64 a0, .int .i64 a1]) (R := fun v w' => ∃ r0 : Int, ∃ r1 : Bool, v = .tuple #[.int .i64 r0, .bool r1] ∧ R r0 r1 w') Try.func77 rfl rfl (Nat.le_of_ble_eq_true rfl) rfl ?_) ?_
  case refine_2 => rintro e w' ⟨v, rfl, hr⟩; obtain ⟨r0, r1, rfl, hr⟩ := hr; exact ⟨r0, r1, rfl, hr⟩
  have hx : Ext w w := Chg.refl _
  unfold VC_ref06_Add at h
  refine cw_seq ?_
  refine cw_region ?_
  refine sl_v rfl (r_as rfl) ?_
  refine sl_v rfl (r_as rfl) ?_
  refine sl_nil ?_
  refine cw_seq ?_
  obtain ⟨K2, hK3, h⟩ := h
  refine cw_mid (fun f w => ∃ (g : Env) (j1 : Bool), f = (upd (upd (upd (nm g []) 0 (.int .i64 a0)) 1 (.int .i64 a1)) 17 (.bool j1)) ∧ K2 j1 w) ?_ (fun _ w4 hM6 => ?_)
  ·
    refine cw_region ?_
    refine sl_v rfl (r_mv rfl) ?_
    refine sl_v rfl (r_lss rfl rfl) ?_
    refine sl_v rfl (r_mv rfl) ?_
    refine bcases (decide (a0 < (0 : Int))) (fun hb7 => ?_) (fun hb7 => ?_)
    · replace h := h.1 (of_decide_eq_true hb7)
      refine sl_no rfl rfl rfl hb7 ?_
      refine sl_no rfl rfl rfl hb7 ?_
      refine sl_v rfl (r_pt rfl hb7 rfl) ?_
      refine sl_v rfl (r_mv rfl) ?_
      refine sl_no rfl rfl rfl rfl ?_
      refine sl_no rfl rfl rfl rfl ?_
      refine sl_no rfl rfl rfl rfl ?_
      refine sl_no rfl rfl rfl rfl ?_
      refine sl_v rfl (r_pt rfl rfl rfl) ?_
      refine sl_nil ?_
      exact ⟨_, true, (kp (kp (kp (kn rfl) rfl) rfl) rfl), h⟩
    · replace h := h.2 (of_decide_eq_false hb7)
      refine sl_vg rfl rfl rfl hb7 (r_mv rfl) ?_
      refine sl_vg rfl rfl rfl hb7 (r_lss rfl rfl) ?_
      refine sl_v rfl (r_pf rfl hb7 rfl) ?_
      refine sl_v rfl (r_mv rfl) ?_
      refine bcases (decide (a1 < (0 : Int))) (fun hb8 => ?_) (fun hb8 => ?_)
      · replace h := h.1 (of_decide_eq_true hb8)
        refine sl_no rfl rfl rfl hb8 ?_
        refine sl_no rfl rfl rfl hb8 ?_
        refine sl_no rfl rfl rfl hb8 ?_
        refine sl_no rfl rfl rfl hb8 ?_
        refine sl_v rfl (r_pt rfl hb8 rfl) ?_
        refine sl_nil ?_
        exact ⟨_, true, (kp (kp (kp (kn rfl) rfl) rfl) rfl), h⟩
      · replace h := h.2 (of_decide_eq_false hb8)
        refine sl_vg rfl rfl rfl hb8 (r_mv rfl) ?_
        refine sl_vg rfl rfl rfl hb8 (r_mv rfl) ?_
        obtain ⟨z9, hz9, h⟩ := h
        refine sl_vg rfl rfl rfl hb8 (r_add rfl rfl hz9) ?_
        refine sl_vg rfl rfl rfl hb8 (r_lss rfl rfl) ?_
        refine sl_v rfl (r_pf rfl hb8 rfl) ?_
        refine sl_nil ?_
        exact ⟨_, decide (z9 < (0 : Int)), (kp (kp (kp (kn rfl) rfl) rfl) rfl), h⟩
  ·
    obtain ⟨g5, j1, rfl, hM6⟩ := hM6
    replace h := hK3 j1 w4 hM6
    have hx : Ext w4 w4 := Chg.refl _
    refine bcases (j1) (fun hb10 => ?_) (fun hb10 => ?_)
    · replace h := h.1 hb10
      refine cw_ct rfl hb10 ?_
      refine cw_seq ?_
      refine cw_region ?_
      refine sl_v rfl (r_as rfl) ?_
      refine sl_v rfl (r_as rfl) ?_
      refine sl_nil ?_
      refine cw_ret ?_
      exact rs_2 (rt rfl) (rt rfl) ⟨0, false, rfl, h⟩
    · replace h := h.2 hb10
      refine cw_cf rfl hb10 ?_
      refine cw_skip ?_
      refine cw_seq ?_
      refine cw_region ?_
      refine sl_v rfl (r_mv rfl) ?_
      refine sl_v rfl (r_mv rfl) ?_
      obtain ⟨z11, hz11, h⟩ := h
      refine sl_v rfl (r_add rfl rfl hz11) ?_
      refine sl_v rfl (r_as rfl) ?_
      refine sl_v rfl (r_as rfl) ?_
      refine sl_nil ?_
      refine cw_ret ?_
      exact rs_2 (rt rfl) (rt rfl) ⟨z11, true, rfl, h⟩

def VC_seq_Seq_Pairs (a0 : Option Addr) (R : Sl → World → Prop) (w : World) : Prop :=
  (a0 = none → (R (⟨none, 0, 0⟩ : Sl) w)) ∧ (¬ (a0 = none) → (∀ (b2 : Nat) (w3 : World), New w b2 (.map #[] 0) w3 → (∃ (b5 o6 : Nat), a0 = some ⟨b5, o6, none⟩ ∧ (∃ v7 : Int, w3.cell? ⟨b5, o6 + 1, none⟩ = some (.int .i64 v7) ∧ (∃ (I10 : Int → World → Prop) (μ11 : Int → World → Nat), I10 v7 w3 ∧ ∀ (l9 : Int) (w13 : World), I10 l9 w13 → (((0 : Int) ≤ l9 → (Calls PP n_seq_Seq_note #[.pointer (some ⟨b5, o6, none⟩), .map (some b2), .int .i64 l9, .int .i64 1] w13 (fun e w18 => e = .returned (.tuple #[]) ∧ (∃ v22 : Sl, w18.cell? ⟨b5, o6, none⟩ = some (v22.v) ∧ (∃ k24 : Nat, l9 = ((k24 : Nat) : Int) ∧ k24 < v22.n ∧ (∃ (b26 o27 : Nat), v22.b = some ⟨b26, o27, none⟩ ∧ (∃ v29 : Int, w18.cell? ⟨b26, o27 + k24 * 3 + 2, none⟩ = some (.int .i64 v29) ∧ (I10 v29 w18 ∧ μ11 v29 w18 < μ11 l9 w13)))))))) ∧ (¬ ((0 : Int) ≤ l9) → (Calls PP n_seq_ledger_list #[.map (some b2)] w13 (fun e w32 => ∃ r35 : Sl, e = .returned (r35.v) ∧ (R r35 w32))))))))))
set_option maxRecDepth 100000 in
theorem vc_seq_Seq_Pairs {a0 : Option Addr} {R : Sl → World → Prop} {w : World} (h : VC_seq_Seq_Pairs a0 R w) : Calls PP n_seq_Seq_Pairs #[.pointer a0] w fun e w' => ∃ r0 : Sl, e = .returned (r0.v) ∧ R r0 w' := by
  refine Calls.mono (calls_of_cw (n := 28) (rs := #[.tmp 2]) (args := [.pointer a0]) (R := fun v w' => ∃ r0 : Sl, v = r0.v ∧ R r0 w') Try.func78 rfl rfl (Nat.le_of_ble_eq_true rfl) rfl ?_) ?_
  case refine_2 => rintro e w' ⟨v, rfl, hr⟩; obtain ⟨r0, rfl, hr⟩ := hr; exact ⟨r0, rfl, hr⟩
  have hx : Ext w w := Chg.refl _
  unfold VC_seq_Seq_Pairs at h
  refine cw_seq ?_
  refine cw_region ?_
  refine sl_v rfl (r_as rfl) ?_
  refine sl_nil ?_
  refine cw_seq ?_
  refine cw_seq ?_
  refine cw_region ?_
  refine sl_v rfl (r_mv rfl) ?_
  refine sl_v rfl (p_eqn rfl rfl Try.underlying105) ?_
  refine sl_nil ?_
  refine bcases (decide (a0 = none)) (fun hb1 => ?_) (fun hb1 => ?_)
  · replace h := h.1 (of_decide_eq_true hb1)
    refine cw_ct rfl hb1 ?_
    refine cw_seq ?_
    refine cw_region ?_
    refine sl_v rfl (r_as rfl) ?_
    refine sl_nil ?_
    refine cw_ret ?_
    exact rs_1 (rt rfl) ⟨(⟨none, 0, 0⟩ : Sl), rfl, h⟩
  · replace h := h.2 (of_decide_eq_false hb1)
    refine cw_cf rfl hb1 ?_
    refine cw_skip ?_
    refine cw_seq ?_
    refine cw_region ?_
    refine sl_op rfl (ok_mm (fun b2 w3 hN4 => ?_) rfl)
    replace h := h b2 w3 hN4
    replace hx : Ext w3 w3 := Chg.refl _
    refine sl_v rfl (r_as rfl) ?_
    refine sl_nil ?_
    refine cw_seq ?_
    refine cw_seq ?_
    refine cw_region ?_
    refine sl_v rfl (r_mv rfl) ?_
    obtain ⟨b5, o6, rfl, h⟩ := h
    refine sl_v rfl (r_nc rfl) ?_
    refine sl_v rfl (fa_seq_Seq_1 (o' := o6 + 1) rfl rfl) ?_
    obtain ⟨v7, hc8, h⟩ := h
    refine sl_v rfl (ld_int rfl hc8) ?_
    refine sl_v rfl (r_as rfl) ?_
    refine sl_nil ?_
    refine cw_block ?_
    obtain ⟨I10, μ11, hI12, h⟩ := h
    refine cw_loop (σ := Int) (fun s g => (upd (upd (upd (nm g []) 0 (.pointer (some ⟨b5, o6, none⟩))) 3 (.map (some b2))) 4 (.int .i64 s))) (fun s w => I10 s w) (fun s w => μ11 s w) (v7) _ (kp (kp (kp (kn rfl) rfl) rfl) rfl) hI12 ?_
    rintro l9 g14 w13 hi15
    replace h := h l9 w13 hi15
    have hx : Ext w13 w13 := Chg.refl _
    change CW _ PP _ _ _ (upd (upd (upd (nm g14 []) 0 (.pointer (some ⟨b5, o6, none⟩))) 3 (.map (some b2))) 4 (.int .i64 l9)) _
    refine cw_seq ?_
    refine cw_seq ?_
    refine cw_region ?_
    refine sl_v rfl (r_mv rfl) ?_
    refine sl_v rfl (r_geq rfl rfl) ?_
    refine sl_nil ?_
    refine bcases (decide ((0 : Int) ≤ l9)) (fun hb16 => ?_) (fun hb16 => ?_)
    · replace h := h.1 (of_decide_eq_true hb16)
      refine cw_ct rfl hb16 ?_
      refine cw_skip ?_
      refine cw_seq ?_
      refine cw_block ?_
      refine cw_region ?_
      refine sl_v rfl (r_mv rfl) ?_
      refine sl_v rfl (r_mv rfl) ?_
      refine sl_v rfl (r_mv rfl) ?_
      refine sl_op rfl (ok_call c_seq_Seq_note rfl (Calls.mono h (fun e17 w18 hq19 => ?_)))
      clear h
      obtain ⟨he20, h⟩ := hq19
      refine ⟨_, he20, ?_⟩
      replace hx : Ext w18 w18 := Chg.refl _
      refine sl_nil ?_
      refine cw_region ?_
      refine sl_v rfl (r_mv rfl) ?_
      refine sl_v rfl (r_nc rfl) ?_
      refine sl_v rfl (fa_seq_Seq_0 (o' := o6) rfl rfl) ?_
      obtain ⟨v22, hc23, h⟩ := h
      refine sl_v rfl (ld_sl_seq_cell rfl hc23) ?_
      refine sl_v rfl (r_mv rfl) ?_
      obtain ⟨k24, rfl, hk25, h⟩ := h
      obtain ⟨b26, o27, hb28, h⟩ := h
      refine sl_v rfl (ia_sl_seq_cell (s := v22) (j := k24) (o' := o27 + k24 * 3) rfl rfl hk25 hb28 rfl) ?_
      refine sl_v rfl (fa_seq_cell_2 (o' := o27 + k24 * 3 + 2) rfl rfl) ?_
      obtain ⟨v29, hc30, h⟩ := h
      refine sl_v rfl (ld_int rfl hc30) ?_
      refine sl_v rfl (r_as rfl) ?_
      refine sl_nil ?_
      exact ⟨(v29), _, (kp (kp (kp (kn rfl) rfl) rfl) rfl), h.1, h.2⟩
    · replace h := h.2 (of_decide_eq_false hb16)
      refine cw_cf rfl hb16 ?_
      refine cw_exit ?_
      refine cw_seq ?_
      refine cw_region ?_
      refine sl_v rfl (r_mv rfl) ?_
      refine sl_op rfl (ok_call c_seq_ledger_list rfl (Calls.mono h (fun e31 w32 hq33 => ?_)))
      clear h
      obtain ⟨r35, he34, h⟩ := hq33
      refine ⟨_, he34, ?_⟩
      replace hx : Ext w32 w32 := Chg.refl _
      refine sl_v rfl (r_as rfl) ?_
      refine sl_nil ?_
      refine cw_ret ?_
      exact rs_1 (rt rfl) ⟨r35, rfl, h⟩
def VC_seq_Seq_pair (a0 : Option Addr) (a1 : Int) (R : Int → Int → Bool → World → Prop) (w : World) : Prop :=
  ∀ (b1 : Nat) (w2 : World), Priv w b1 w2 → (∃ K6 : Bool → World → Prop, (∀ (j5 : Bool) (w8 : World), K6 j5 w8 → ((j5 = true → (∀ w25 : World, Chg (fun b => b = b1) w8 w25 → (R 0 0 false w25))) ∧ (j5 = false → (∃ (b29 o30 : Nat), a0 = some ⟨b29, o30, none⟩ ∧ (∃ v31 : Sl, w8.cell? ⟨b29, o30, none⟩ = some (v31.v) ∧ (∃ k33 : Nat, a1 = ((k33 : Nat) : Int) ∧ k33 < v31.n ∧ (∃ (b35 o36 : Nat), v31.b = some ⟨b35, o36, none⟩ ∧ (∃ v38 : Int, w8.cell? ⟨b35, o36 + k33 * 3, none⟩ = some (.int .i64 v38) ∧ (∃ v40 : Int, w8.cell? ⟨b35, o36 + k33 * 3 + 2, none⟩ = some (.int .i64 v40) ∧ (∃ k42 : Nat, v40 = ((k42 : Nat) : Int) ∧ k42 < v31.n ∧ (∃ v44 : Int, w8.cell? ⟨b35, o36 + k42 * 3, none⟩ = some (.int .i64 v44) ∧ (∀ w46 : World, Chg (fun b => b = b1) w8 w46 → (R v38 v44 true w46))))))))))))) ∧ ((a1 < (0 : Int) → (K6 true w2)) ∧ (¬ (a1 < (0 : Int)) → (∃ (b12 o13 : Nat), a0 = some ⟨b12, o13, none⟩ ∧ (∃ v14 : Sl, w2.cell? ⟨b12, o13, none⟩ = some (v14.v) ∧ (∃ k16 : Nat, a1 = ((k16 : Nat) : Int) ∧ k16 < v14.n ∧ (∃ (b18 o19 : Nat), v14.b = some ⟨b18, o19, none⟩ ∧ (∃ v21 : Int, w2.cell? ⟨b18, o19 + k16 * 3 + 2, none⟩ = some (.int .i64 v21) ∧ (K6 (decide (v21 < (0 : Int))) w2)))))))))
set_option maxRecDepth 100000 in
theorem vc_seq_Seq_pair {a0 : Option Addr} {a1 : Int} {R : Int → Int → Bool → World → Prop} {w : World} (h : VC_seq_Seq_pair a0 a1 R w) : Calls PP n_seq_Seq_pair #[.pointer a0, .int .i64 a1] w fun e w' => ∃ r0_0 : Int, ∃ r0_1 : Int, ∃ r1 : Bool, e = .returned (.tuple #[.agg #[.int .i64 r0_0, .int .i64 r0_1], .bool r1]) ∧ R r0_0 r0_1 r1 w' := by
  refine Calls.mono (calls_of_cw (n := 44) (rs := #[.cell 4 94, .tmp 5]) (args := [.pointer a0, .int .i64 a1]) (R := fun v w' => ∃ r0_0 : Int, ∃ r0_1 : Int, ∃ r1 : Bool, v = .tuple #[.agg #[.int .i64 r0_0, .int .i64 r0_1], .bool r1] ∧ R r0_0 r0_1 r1 w') Try.func79 rfl rfl (Nat.le_of_ble_eq_true rfl) rfl ?_) ?_
  case refine_2 => rintro e w' ⟨v, rfl, hr⟩; obtain ⟨r0_0, r0_1, r1, rfl, hr⟩ := hr; exact ⟨r0_0, r0_1, r1, rfl, hr⟩
  have hx : Ext w w := Chg.refl _
  unfold VC_seq_Seq_pair at h
  refine cw_seq ?_
  refine cw_region ?_
  refine sl_op rfl (al_api_Pair rfl (fun b1 w2 hN3 => ?_))
  have hB4 := hN3.here
  replace h := h b1 w2 ⟨hx.tr hN3.ext, Nat.le_trans hx.size hN3.fresh, lt_of_blk hN3.here⟩
  replace hx : Ext w2 w2 := Chg.refl _
  refine sl_v rfl (r_as rfl) ?_
  refine sl_nil ?_
  refine cw_seq ?_
  obtain ⟨K6, hK7, h⟩ := h
  refine cw_mid (fun f w => ∃ (g : Env) (j5 : Bool), f = (upd (upd (upd (upd (nm g []) 0 (.pointer a0)) 1 (.int .i64 a1)) 4 (.pointer (some ⟨b1, 0, none⟩))) 18 (.bool j5)) ∧ w.heap[b1]? = some (.cells #[.int .i64 0, .int .i64 0] t_api_Pair (0, 0)) ∧ K6 j5 w) ?_ (fun _ w8 hM10 => ?_)
  ·
    refine cw_region ?_
    refine sl_v rfl (r_mv rfl) ?_
    refine sl_v rfl (r_lss rfl rfl) ?_
    refine sl_v rfl (r_mv rfl) ?_
    refine bcases (decide (a1 < (0 : Int))) (fun hb11 => ?_) (fun hb11 => ?_)
    · replace h := h.1 (of_decide_eq_true hb11)
      refine sl_no rfl rfl rfl hb11 ?_
      refine sl_no rfl rfl rfl hb11 ?_
      refine sl_no rfl rfl rfl hb11 ?_
      refine sl_no rfl rfl rfl hb11 ?_
      refine sl_no rfl rfl rfl hb11 ?_
      refine sl_no rfl rfl rfl hb11 ?_
      refine sl_no rfl rfl rfl hb11 ?_
      refine sl_no rfl rfl rfl hb11 ?_
      refine sl_no rfl rfl rfl hb11 ?_
      refine sl_v rfl (r_pt rfl hb11 rfl) ?_
      refine sl_nil ?_
      exact ⟨_, true, (kp (kp (kp (kp (kn rfl) rfl) rfl) rfl) rfl), hB4, h⟩
    · replace h := h.2 (of_decide_eq_false hb11)
      refine sl_vg rfl rfl rfl hb11 (r_mv rfl) ?_
      obtain ⟨b12, o13, rfl, h⟩ := h
      refine sl_vg rfl rfl rfl hb11 (r_nc rfl) ?_
      refine sl_vg rfl rfl rfl hb11 (fa_seq_Seq_0 (o' := o13) rfl rfl) ?_
      obtain ⟨v14, hc15, h⟩ := h
      refine sl_vg rfl rfl rfl hb11 (ld_sl_seq_cell rfl hc15) ?_
      refine sl_vg rfl rfl rfl hb11 (r_mv rfl) ?_
      obtain ⟨k16, rfl, hk17, h⟩ := h
      obtain ⟨b18, o19, hb20, h⟩ := h
      refine sl_vg rfl rfl rfl hb11 (ia_sl_seq_cell (s := v14) (j := k16) (o' := o19 + k16 * 3) rfl rfl hk17 hb20 rfl) ?_
      refine sl_vg rfl rfl rfl hb11 (fa_seq_cell_2 (o' := o19 + k16 * 3 + 2) rfl rfl) ?_
      obtain ⟨v21, hc22, h⟩ := h
      refine sl_vg rfl rfl rfl hb11 (ld_int rfl hc22) ?_
      refine sl_vg rfl rfl rfl hb11 (r_lss rfl rfl) ?_
      refine sl_v rfl (r_pf rfl hb11 rfl) ?_
      refine sl_nil ?_
      exact ⟨_, decide (v21 < (0 : Int)), (kp (kp (kp (kp (kn rfl) rfl) rfl) rfl) rfl), hB4, h⟩
  ·
    obtain ⟨g9, j5, rfl, hB23, hM10⟩ := hM10
    replace h := hK7 j5 w8 hM10
    have hx : Ext w8 w8 := Chg.refl _
    refine bcases (j5) (fun hb24 => ?_) (fun hb24 => ?_)
    · replace h := h.1 hb24
      refine cw_ct rfl hb24 ?_
      refine cw_seq ?_
      refine cw_region ?_
      refine sl_v rfl (bd_api_Pair (vs := []) (cs := #[.int .i64 0, .int .i64 0]) rfl rfl) ?_
      refine sl_op rfl (st_api_Pair (vs := [.int .i64 0, .int .i64 0]) rfl rfl rfl rfl rfl ⟨_, _, hB23, Nat.le_of_ble_eq_true rfl⟩ (fun w25 hw26 => ?_))
      have hc_ := sto_chg hw26
      replace hB23 : w25.heap[b1]? = some (.cells #[.int .i64 0, .int .i64 0] t_api_Pair (0, 0)) := sto_blk hw26 hB23
      replace h := h w25 (Chg.pre hx hc_)
      replace hx : Ext w25 w25 := Chg.refl _
      clear hc_
      refine sl_v rfl (r_as rfl) ?_
      refine sl_nil ?_
      refine cw_ret ?_
      exact rs_2 (rc (vs := [.int .i64 0, .int .i64 0]) Try.underlying94 rfl i_api_Pair rfl rfl (.c (cell_blk hB23 rfl) (.c (cell_blk hB23 rfl) .n))) (rt rfl) ⟨0, 0, false, rfl, h⟩
    · replace h := h.2 hb24
      refine cw_cf rfl hb24 ?_
      refine cw_skip ?_
      refine cw_seq ?_
      refine cw_tail 24 mo (by kernel_rfl) (fun w27 hd28 => ?_)
      replace hB23 := (Ext.of_drew hd28).get hB23
      replace hx := hx.tr (Ext.of_drew hd28)
      refine st_v rfl (r_mv rfl) ?_
      obtain ⟨b29, o30, rfl, h⟩ := h
      refine st_v rfl (r_nc rfl) ?_
      refine st_v rfl (fa_seq_Seq_0 (o' := o30) rfl rfl) ?_
      obtain ⟨v31, hc32, h⟩ := h
      refine st_v rfl (ld_sl_seq_cell rfl (hx.cell hc32)) ?_
      refine st_v rfl (r_mv rfl) ?_
      obtain ⟨k33, rfl, hk34, h⟩ := h
      obtain ⟨b35, o36, hb37, h⟩ := h
      refine st_v rfl (ia_sl_seq_cell (s := v31) (j := k33) (o' := o36 + k33 * 3) rfl rfl hk34 hb37 rfl) ?_
      refine st_v rfl (fa_seq_cell_0 (o' := o36 + k33 * 3) rfl rfl) ?_
      obtain ⟨v38, hc39, h⟩ := h
      refine st_v rfl (ld_int rfl (hx.cell hc39)) ?_
      refine st_v rfl (r_mv rfl) ?_
      refine st_v rfl (r_nc rfl) ?_
      refine st_v rfl (fa_seq_Seq_0 (o' := o30) rfl rfl) ?_
      refine st_v rfl (ld_sl_seq_cell rfl (hx.cell hc32)) ?_
      refine st_v rfl (r_mv rfl) ?_
      refine st_v rfl (r_nc rfl) ?_
      refine st_v rfl (fa_seq_Seq_0 (o' := o30) rfl rfl) ?_
      refine st_v rfl (ld_sl_seq_cell rfl (hx.cell hc32)) ?_
      refine st_v rfl (r_mv rfl) ?_
      refine st_v rfl (ia_sl_seq_cell (s := v31) (j := k33) (o' := o36 + k33 * 3) rfl rfl hk34 hb37 rfl) ?_
      refine st_v rfl (fa_seq_cell_2 (o' := o36 + k33 * 3 + 2) rfl rfl) ?_
      obtain ⟨v40, hc41, h⟩ := h
      refine st_v rfl (ld_int rfl (hx.cell hc41)) ?_
      obtain ⟨k42, rfl, hk43, h⟩ := h
      refine st_v rfl (ia_sl_seq_cell (s := v31) (j := k42) (o' := o36 + k42 * 3) rfl rfl hk43 hb37 rfl) ?_
      refine st_v rfl (fa_seq_cell_0 (o' := o36 + k42 * 3) rfl rfl) ?_
      obtain ⟨v44, hc45, h⟩ := h
      refine st_v rfl (ld_int rfl (hx.cell hc45)) ?_
      refine st_v rfl (bd_api_Pair (vs := [(0, .int .i64 v38), (1, .int .i64 v44)]) (cs := #[.int .i64 v38, .int .i64 v44]) rfl rfl) ?_
      refine st_nil ?_
      refine tl_op rfl (st_api_Pair (vs := [.int .i64 v38, .int .i64 v44]) rfl rfl rfl rfl rfl ⟨_, _, hB23, Nat.le_of_ble_eq_true rfl⟩ (fun w46 hw47 => ?_))
      have hc_ := sto_chg hw47
      replace hB23 : w46.heap[b1]? = some (.cells #[.int .i64 v38, .int .i64 v44] t_api_Pair (0, 0)) := sto_blk hw47 hB23
      replace h := h w46 (Chg.pre hx hc_)
      replace hx : Ext w46 w46 := Chg.refl _
      clear hc_
      refine tl_v rfl (r_as rfl) ?_
      refine tl_nil ?_
      refine cw_ret ?_
      exact rs_2 (rc (vs := [.int .i64 v38, .int .i64 v44]) Try.underlying94 rfl i_api_Pair rfl rfl (.c (cell_blk hB23 rfl) (.c (cell_blk hB23 rfl) .n))) (rt rfl) ⟨v38, v44, true, rfl, h⟩

def VC_seq_Seq_join (a0 : Option Addr) (a1 : Option Nat) (a2 : Int) (a3 : Int) (R : World → Prop) (w : World) : Prop :=
  ∃ (b3 o4 : Nat), a0 = some ⟨b3, o4, none⟩ ∧ (∃ v5 : Sl, w.cell? ⟨b3, o4, none⟩ = some (v5.v) ∧ (∃ k7 : Nat, a2 = ((k7 : Nat) : Int) ∧ k7 < v5.n ∧ (∃ (b9 o10 : Nat), v5.b = some ⟨b9, o10, none⟩ ∧ (∃ v12 : Int, w.cell? ⟨b9, o10 + k7 * 3 + 1, none⟩ = some (.int .i64 v12) ∧ (∃ v14 : Int, w.cell? ⟨b9, o10 + k7 * 3 + 2, none⟩ = some (.int .i64 v14) ∧ (∀ w1 : World, Ext w w1 → (Calls PP n_seq_Seq_note #[.pointer (some ⟨b3, o4, none⟩), .map a1, .int .i64 v12, .int .i64 (-1)] w1 (fun e w18 => e = .returned (.tuple #[]) ∧ (Calls PP n_seq_Seq_note #[.pointer (some ⟨b3, o4, none⟩), .map a1, .int .i64 ((k7 : Nat) : Int), .int .i64 (-1)] w18 (fun e w23 => e = .returned (.tuple #[]) ∧ (Calls PP n_seq_Seq_note #[.pointer (some ⟨b3, o4, none⟩), .map a1, .int .i64 v14, .int .i64 (-1)] w23 (fun e w28 => e = .returned (.tuple #[]) ∧ (∃ v32 : Sl, w28.cell? ⟨b3, o4, none⟩ = some (v32.v) ∧ (∃ k34 : Nat, v14 = ((k34 : Nat) : Int) ∧ k34 < v32.n ∧ (∃ (b36 o37 : Nat), v32.b = some ⟨b36, o37, none⟩ ∧ (∃ v39 : Int, w28.cell? ⟨b36, o37 + k34 * 3 + 2, none⟩ = some (.int .i64 v39) ∧ (k7 < v32.n ∧ (∀ w42 : World, Ext w28 w42 → (Wr w42 b36 (o37 + k7 * 3) 1 ∧ (∀ w44 : World, w44 = setCells w42 b36 (o37 + k7 * 3) [.int .i64 a3] → (w44.cell? ⟨b3, o4, none⟩ = some (v32.v) ∧ (w44.cell? ⟨b3, o4, none⟩ = some (v32.v) ∧ (Wr w44 b36 (o37 + k7 * 3 + 2) 1 ∧ (∀ w50 : World, w50 = setCells w44 b36 (o37 + k7 * 3 + 2) [.int .i64 v39] → (w50.cell? ⟨b3, o4, none⟩ = some (v32.v) ∧ (w50.cell? ⟨b3, o4, none⟩ = some (v32.v) ∧ (∃ K55 : World → Prop, (∀ (w57 : World), K55 w57 → (∃ v71 : Int, w57.cell? ⟨b3, o4 + 2, none⟩ = some (.int .i64 v71) ∧ (∃ z73 : Int, z73 = IntKind.wrap .i64 (v71 - 1) ∧ (Wr w57 b3 (o4 + 2) 1 ∧ (∀ w74 : World, w74 = setCells w57 b3 (o4 + 2) [.int .i64 z73] → (Calls PP n_seq_Seq_note #[.pointer (some ⟨b3, o4, none⟩), .map a1, .int .i64 v12, .int .i64 1] w74 (fun e w78 => e = .returned (.tuple #[]) ∧ (Calls PP n_seq_Seq_note #[.pointer (some ⟨b3, o4, none⟩), .map a1, .int .i64 ((k7 : Nat) : Int), .int .i64 1] w78 (fun e w83 => e = .returned (.tuple #[]) ∧ (R w83)))))))))) ∧ (((0 : Int) ≤ v39 → (∃ v61 : Sl, w50.cell? ⟨b3, o4, none⟩ = some (v61.v) ∧ (∃ k63 : Nat, v39 = ((k63 : Nat) : Int) ∧ k63 < v61.n ∧ (∃ (b65 o66 : Nat), v61.b = some ⟨b65, o66, none⟩ ∧ (Wr w50 b65 (o66 + k63 * 3 + 1) 1 ∧ (∀ w68 : World, w68 = setCells w50 b65 (o66 + k63 * 3 + 1) [.int .i64 ((k7 : Nat) : Int)] → (K55 w68))))))) ∧ (¬ ((0 : Int) ≤ v39) → (K55 w50))))))))))))))))))))))))))))))
set_option maxRecDepth 100000 in
theorem vc_seq_Seq_join {a0 : Option Addr} {a1 : Option Nat} {a2 : Int} {a3 : Int} {R : World → Prop} {w : World} (h : VC_seq_Seq_join a0 a1 a2 a3 R w) : Calls PP n_seq_Seq_join #[.pointer a0, .map a1, .int .i64 a2, .int .i64 a3] w fun e w' => e = .returned (.tuple #[]) ∧ R w' := by
  refine Calls.mono (calls_of_cw (n := 88) (rs := #[]) (args := [.pointer a0, .map a1, .int .i64 a2, .int .i64 a3]) (R := fun v w' => v = .tuple #[] ∧ R w') Try.func80 rfl rfl (Nat.le_of_ble_eq_true rfl) rfl ?_) ?_
  case refine_2 => rintro e w' ⟨v, rfl, hr⟩; obtain ⟨rfl, hr⟩ := hr; exact ⟨rfl, hr⟩
  have hx : Ext w w := Chg.refl _
  unfold VC_seq_Seq_join at h
  refine cw_seq ?_
  refine cw_still mo (by kernel_rfl) (fun w1 hd2 => ?_)
  replace hx := hx.tr (Ext.of_drew hd2)
  refine st_v rfl (r_mv rfl) ?_
  obtain ⟨b3, o4, rfl, h⟩ := h
  refine st_v rfl (r_nc rfl) ?_
  refine st_v rfl (fa_seq_Seq_0 (o' := o4) rfl rfl) ?_
  obtain ⟨v5, hc6, h⟩ := h
  refine st_v rfl (ld_sl_seq_cell rfl (hx.cell hc6)) ?_
  refine st_v rfl (r_mv rfl) ?_
  obtain ⟨k7, rfl, hk8, h⟩ := h
  obtain ⟨b9, o10, hb11, h⟩ := h
  refine st_v rfl (ia_sl_seq_cell (s := v5) (j := k7) (o' := o10 + k7 * 3) rfl rfl hk8 hb11 rfl) ?_
  refine st_v rfl (fa_seq_cell_1 (o' := o10 + k7 * 3 + 1) rfl rfl) ?_
  obtain ⟨v12, hc13, h⟩ := h
  refine st_v rfl (ld_int rfl (hx.cell hc13)) ?_
  refine st_v rfl (r_mv rfl) ?_
  refine st_v rfl (r_nc rfl) ?_
  refine st_v rfl (fa_seq_Seq_0 (o' := o4) rfl rfl) ?_
  refine st_v rfl (ld_sl_seq_cell rfl (hx.cell hc6)) ?_
  refine st_v rfl (r_mv rfl) ?_
  refine st_v rfl (ia_sl_seq_cell (s := v5) (j := k7) (o' := o10 + k7 * 3) rfl rfl hk8 hb11 rfl) ?_
  refine st_v rfl (fa_seq_cell_2 (o' := o10 + k7 * 3 + 2) rfl rfl) ?_
  obtain ⟨v14, hc15, h⟩ := h
  refine st_v rfl (ld_int rfl (hx.cell hc15)) ?_
  refine st_v rfl (r_as rfl) ?_
  refine st_v rfl (r_as rfl) ?_
  refine st_nil ?_
  refine cw_seq ?_
  refine cw_region ?_
  refine sl_v rfl (r_mv rfl) ?_
  refine sl_v rfl (r_mv rfl) ?_
  refine sl_v rfl (r_mv rfl) ?_
  replace h := h _ hx
  replace hx : Ext w1 w1 := Chg.refl _
  refine sl_op rfl (ok_call c_seq_Seq_note rfl (Calls.mono h (fun e17 w18 hq19 => ?_)))
  clear h
  obtain ⟨he20, h⟩ := hq19
  refine ⟨_, he20, ?_⟩
  replace hx : Ext w18 w18 := Chg.refl _
  refine sl_nil ?_
  refine cw_seq ?_
  refine cw_region ?_
  refine sl_v rfl (r_mv rfl) ?_
  refine sl_v rfl (r_mv rfl) ?_
  refine sl_v rfl (r_mv rfl) ?_
  refine sl_op rfl (ok_call c_seq_Seq_note rfl (Calls.mono h (fun e22 w23 hq24 => ?_)))
  clear h
  obtain ⟨he25, h⟩ := hq24
  refine ⟨_, he25, ?_⟩
  replace hx : Ext w23 w23 := Chg.refl _
  refine sl_nil ?_
  refine cw_seq ?_
  refine cw_region ?_
  refine sl_v rfl (r_mv rfl) ?_
  refine sl_v rfl (r_mv rfl) ?_
  refine sl_v rfl (r_mv rfl) ?_
  refine sl_op rfl (ok_call c_seq_Seq_note rfl (Calls.mono h (fun e27 w28 hq29 => ?_)))
  clear h
  obtain ⟨he30, h⟩ := hq29
  refine ⟨_, he30, ?_⟩
  replace hx : Ext w28 w28 := Chg.refl _
  refine sl_nil ?_
  refine cw_seq ?_
  refine cw_region ?_
  refine sl_v rfl (r_mv rfl) ?_
  refine sl_v rfl (r_nc rfl) ?_
  refine sl_v rfl (fa_seq_Seq_0 (o' := o4) rfl rfl) ?_
  obtain ⟨v32, hc33, h⟩ := h
  refine sl_v rfl (ld_sl_seq_cell rfl hc33) ?_
  refine sl_v rfl (r_mv rfl) ?_
  obtain ⟨k34, rfl, hk35, h⟩ := h
  obtain ⟨b36, o37, hb38, h⟩ := h
  refine sl_v rfl (ia_sl_seq_cell (s := v32) (j := k34) (o' := o37 + k34 * 3) rfl rfl hk35 hb38 rfl) ?_
  refine sl_v rfl (fa_seq_cell_2 (o' := o37 + k34 * 3 + 2) rfl rfl) ?_
  obtain ⟨v39, hc40, h⟩ := h
  refine sl_v rfl (ld_int rfl hc40) ?_
  refine sl_v rfl (r_as rfl) ?_
  refine sl_nil ?_
  refine cw_seq ?_
  obtain ⟨hk41, h⟩ := h
  refine cw_dw (S := fun w' => w'.cell? ⟨b3, o4, none⟩ = some (v32.v) ∧ w'.cell? ⟨b3, o4, none⟩ = some (v32.v) ∧ True) mo (fun w42 hd43 => ?_)
  replace hx := hx.tr (Ext.of_drew hd43)
  have hS : w42.cell? ⟨b3, o4, none⟩ = some (v32.v) ∧ w42.cell? ⟨b3, o4, none⟩ = some (v32.v) ∧ True := ⟨hx.cell hc33, hx.cell hc33, trivial⟩
  refine dw_t 0 1 rfl (by kernel_rfl) rfl hS (fun _ _ => (r_mv rfl)) ?_
  refine dw_t 1 3 rfl (by kernel_rfl) rfl hS (fun _ _ => (r_nc rfl)) ?_
  refine dw_t 2 7 rfl (by kernel_rfl) rfl hS (fun _ _ => (fa_seq_Seq_0 (o' := o4) rfl rfl)) ?_
  refine dw_t 3 15 rfl (by kernel_rfl) rfl hS (fun _ hS => (ld_sl_seq_cell rfl hS.1)) ?_
  refine dw_t 4 31 rfl (by kernel_rfl) rfl hS (fun _ _ => (r_mv rfl)) ?_
  refine dw_t 5 63 rfl (by kernel_rfl) rfl hS (fun _ _ => (r_mv rfl)) ?_
  refine dw_t 6 127 rfl (by kernel_rfl) rfl hS (fun _ _ => (r_nc rfl)) ?_
  refine dw_t 7 255 rfl (by kernel_rfl) rfl hS (fun _ _ => (fa_seq_Seq_0 (o' := o4) rfl rfl)) ?_
  refine dw_t 8 511 rfl (by kernel_rfl) rfl hS (fun _ hS => (ld_sl_seq_cell rfl hS.2.1)) ?_
  refine dw_t 9 1023 rfl (by kernel_rfl) rfl hS (fun _ _ => (r_mv rfl)) ?_
  refine dw_t 10 2047 rfl (by kernel_rfl) rfl hS (fun _ _ => (r_mv rfl)) ?_
  refine dw_t 11 4095 rfl (by kernel_rfl) rfl hS (fun _ _ => (r_mv rfl)) ?_
  refine dw_t 12 8191 rfl (by kernel_rfl) rfl hS (fun _ _ => (ia_sl_seq_cell (s := v32) (j := k7) (o' := o37 + k7 * 3) rfl rfl hk41 hb38 rfl)) ?_
  refine dw_t 13 16383 rfl (by kernel_rfl) rfl hS (fun _ _ => (fa_seq_cell_0 (o' := o37 + k7 * 3) rfl rfl)) ?_
  replace h := h _ hx
  replace hx : Ext w42 w42 := Chg.refl _
  obtain ⟨hW47, h⟩ := h
  refine dw_l 14 32767 rfl (by kernel_rfl) rfl (st_int (vs := [.int .i64 a3]) rfl rfl rfl rfl rfl hW47 (fun w44 hw45 => ?_))
  replace h := h w44 hw45
  replace hx : Ext w44 w44 := Chg.refl _
  obtain ⟨hq48, h⟩ := h
  obtain ⟨hq49, h⟩ := h
  replace hS : w44.cell? ⟨b3, o4, none⟩ = some (v32.v) ∧ w44.cell? ⟨b3, o4, none⟩ = some (v32.v) ∧ True := ⟨hq48, hq49, trivial⟩
  refine ⟨hS, ?_⟩
  refine dw_t 15 65535 rfl (by kernel_rfl) rfl hS (fun _ _ => (ia_sl_seq_cell (s := v32) (j := k7) (o' := o37 + k7 * 3) rfl rfl hk41 hb38 rfl)) ?_
  refine dw_t 16 131071 rfl (by kernel_rfl) rfl hS (fun _ _ => (fa_seq_cell_2 (o' := o37 + k7 * 3 + 2) rfl rfl)) ?_
  obtain ⟨hW52, h⟩ := h
  refine dw_l 17 262143 rfl (by kernel_rfl) rfl (st_int (vs := [.int .i64 v39]) rfl rfl rfl rfl rfl hW52 (fun w50 hw51 => ?_))
  replace h := h w50 hw51
  replace hx : Ext w50 w50 := Chg.refl _
  obtain ⟨hq53, h⟩ := h
  obtain ⟨hq54, h⟩ := h
  replace hS : w50.cell? ⟨b3, o4, none⟩ = some (v32.v) ∧ w50.cell? ⟨b3, o4, none⟩ = some (v32.v) ∧ True := ⟨hq53, hq54, trivial⟩
  refine ⟨hS, ?_⟩
  refine dw_d (by kernel_rfl) ?_
  clear hS
  obtain ⟨K55, hK56, h⟩ := h
  refine cw_mid (fun f w => ∃ (g : Env), f = (upd (upd (upd (upd (nm g []) 0 (.pointer (some ⟨b3, o4, none⟩))) 1 (.map a1)) 2 (.int .i64 ((k7 : Nat) : Int))) 8 (.int .i64 v12)) ∧ K55 w) ?_ (fun _ w57 hM59 => ?_)
  ·
    refine cw_seq ?_
    refine cw_region ?_
    refine sl_v rfl (r_mv rfl) ?_
    refine sl_v rfl (r_geq rfl rfl) ?_
    refine sl_nil ?_
    refine bcases (decide ((0 : Int) ≤ v39)) (fun hb60 => ?_) (fun hb60 => ?_)
    · replace h := h.1 (of_decide_eq_true hb60)
      refine cw_ct rfl hb60 ?_
      refine cw_region ?_
      refine sl_v rfl (r_mv rfl) ?_
      refine sl_v rfl (r_nc rfl) ?_
      refine sl_v rfl (fa_seq_Seq_0 (o' := o4) rfl rfl) ?_
      obtain ⟨v61, hc62, h⟩ := h
      refine sl_v rfl (ld_sl_seq_cell rfl hc62) ?_
      refine sl_v rfl (r_mv rfl) ?_
      refine sl_v rfl (r_mv rfl) ?_
      obtain ⟨k63, rfl, hk64, h⟩ := h
      obtain ⟨b65, o66, hb67, h⟩ := h
      refine sl_v rfl (ia_sl_seq_cell (s := v61) (j := k63) (o' := o66 + k63 * 3) rfl rfl hk64 hb67 rfl) ?_
      refine sl_v rfl (fa_seq_cell_1 (o' := o66 + k63 * 3 + 1) rfl rfl) ?_
      obtain ⟨hW70, h⟩ := h
      refine sl_op rfl (st_int (vs := [.int .i64 ((k7 : Nat) : Int)]) rfl rfl rfl rfl rfl hW70 (fun w68 hw69 => ?_))
      replace h := h w68 hw69
      replace hx : Ext w68 w68 := Chg.refl _
      refine sl_nil ?_
      exact ⟨_, (kp (kp (kp (kp (kn rfl) rfl) rfl) rfl) rfl), h⟩
    · replace h := h.2 (of_decide_eq_false hb60)
      refine cw_cf rfl hb60 ?_
      refine cw_skip ?_
      exact ⟨_, (kp (kp (kp (kp (kn rfl) rfl) rfl) rfl) rfl), h⟩
  ·
    obtain ⟨g58, rfl, hM59⟩ := hM59
    replace h := hK56 w57 hM59
    have hx : Ext w57 w57 := Chg.refl _
    refine cw_seq ?_
    refine cw_region ?_
    refine sl_v rfl (r_mv rfl) ?_
    refine sl_v rfl (r_nc rfl) ?_
    refine sl_v rfl (fa_seq_Seq_2 (o' := o4 + 2) rfl rfl) ?_
    obtain ⟨v71, hc72, h⟩ := h
    refine sl_v rfl (ld_int rfl hc72) ?_
    obtain ⟨z73, hz73, h⟩ := h
    refine sl_v rfl (r_sub rfl rfl hz73) ?_
    refine sl_v rfl (r_nc rfl) ?_
    refine sl_v rfl (fa_seq_Seq_2 (o' := o4 + 2) rfl rfl) ?_
    obtain ⟨hW76, h⟩ := h
    refine sl_op rfl (st_int (vs := [.int .i64 z73]) rfl rfl rfl rfl rfl hW76 (fun w74 hw75 => ?_))
    replace h := h w74 hw75
    replace hx : Ext w74 w74 := Chg.refl _
    refine sl_nil ?_
    refine cw_seq ?_
    refine cw_region ?_
    refine sl_v rfl (r_mv rfl) ?_
    refine sl_v rfl (r_mv rfl) ?_
    refine sl_v rfl (r_mv rfl) ?_
    refine sl_op rfl (ok_call c_seq_Seq_note rfl (Calls.mono h (fun e77 w78 hq79 => ?_)))
    clear h
    obtain ⟨he80, h⟩ := hq79
    refine ⟨_, he80, ?_⟩
    replace hx : Ext w78 w78 := Chg.refl _
    refine sl_nil ?_
    refine cw_region ?_
    refine sl_v rfl (r_mv rfl) ?_
    refine sl_v rfl (r_mv rfl) ?_
    refine sl_v rfl (r_mv rfl) ?_
    refine sl_op rfl (ok_call c_seq_Seq_note rfl (Calls.mono h (fun e82 w83 hq84 => ?_)))
    clear h
    obtain ⟨he85, h⟩ := hq84
    refine ⟨_, he85, ?_⟩
    replace hx : Ext w83 w83 := Chg.refl _
    refine sl_nil ?_
    exact rs_0 ⟨rfl, h⟩

end Go.Proofs.Ytchjcjocihckpaa.G
