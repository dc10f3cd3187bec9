/- What is to be shown of each function, and that it is enough. -/
import Derived.Test.YtchjcjocihckpaaT
set_option linter.unusedVariables false
namespace Go.Proofs.Ytchjcjocihckpaa.G
open Go Go.RowKit
def VC_law21_VocabTells (a0 : Sl) (a1 : ByteArray) (a2 : ByteArray) (R : Bool → World → Prop) (w : World) : Prop :=
  ∀ (b1 : Nat) (w2 : World), Priv w b1 w2 → (Calls PP n_law21_awake #[] w2 (fun e w6 => ∃ r9 : Bool, e = .returned (.bool r9) ∧ w6.heap[b1]? = w2.heap[b1]? ∧ ((r9 = true → (Calls PP n_ref18_Great #[a0.v, .int .i64 60] w6 (fun e w13 => ∃ r16 : Bool, e = .returned (.bool r16) ∧ w13.heap[b1]? = w6.heap[b1]? ∧ ((r16 = true → (∀ w19 : World, Chg (fun b => b = b1) w13 w19 → (R true w19))) ∧ (r16 = false → (((300 : Int) < ((a1.size : Nat) : Int) → (∀ w22 : World, Chg (fun b => b = b1) w13 w22 → (R true w22))) ∧ (¬ ((300 : Int) < ((a1.size : Nat) : Int)) → (((300 : Int) < ((a2.size : Nat) : Int) → (∀ w25 : World, Chg (fun b => b = b1) w13 w25 → (R true w25))) ∧ (¬ ((300 : Int) < ((a2.size : Nat) : Int)) → (Calls PP n_vocab_New #[a0.v] w13 (fun e w28 => ∃ r31_0 : Option Addr, ∃ r31_1 : Int, e = .returned (.tuple #[.pointer r31_0, .int .i64 r31_1]) ∧ w28.heap[b1]? = w13.heap[b1]? ∧ (Calls PP n_ref18_Check #[a0.v] w28 (fun e w34 => ∃ r37_0 : Int, ∃ r37_1 : Int, e = .returned (.tuple #[.int .i64 r37_0, .int .i64 r37_1]) ∧ w34.heap[b1]? = w28.heap[b1]? ∧ ((r31_1 ≠ r37_1 → (∀ w40 : World, Chg (fun b => b = b1) w34 w40 → (R false w40))) ∧ (¬ (r31_1 ≠ r37_1) → (((decide (r31_0 = none)) ≠ (decide (r37_1 ≠ (0 : Int))) → (∀ w43 : World, Chg (fun b => b = b1) w34 w43 → (R false w43))) ∧ (¬ ((decide (r31_0 = none)) ≠ (decide (r37_1 ≠ (0 : Int)))) → ((r37_1 ≠ (0 : Int) → (∀ w46 : World, Chg (fun b => b = b1) w34 w46 → (R true w46))) ∧ (¬ (r37_1 ≠ (0 : Int)) → ((r31_0 = none → (∀ w49 : World, Chg (fun b => b = b1) w34 w49 → (R true w49))) ∧ (¬ (r31_0 = none) → (Calls PP n_vocab_Vocab_Has #[.pointer r31_0, .string a1] w34 (fun e w52 => ∃ r55 : Bool, e = .returned (.bool r55) ∧ w52.heap[b1]? = w34.heap[b1]? ∧ (Calls PP n_ref21_Has #[a0.v, .string a1] w52 (fun e w58 => ∃ r61 : Bool, e = .returned (.bool r61) ∧ w58.heap[b1]? = w52.heap[b1]? ∧ ((r55 ≠ r61 → (∀ w64 : World, Chg (fun b => b = b1) w58 w64 → (R false w64))) ∧ (¬ (r55 ≠ r61) → (Calls PP n_vocab_Vocab_Depth #[.pointer r31_0, .string a1] w58 (fun e w67 => ∃ r70 : Int, e = .returned (.int .i64 r70) ∧ w67.heap[b1]? = w58.heap[b1]? ∧ (Calls PP n_ref21_Depth #[a0.v, .string a1] w67 (fun e w73 => ∃ r76 : Int, e = .returned (.int .i64 r76) ∧ w73.heap[b1]? = w67.heap[b1]? ∧ ((r70 ≠ r76 → (∀ w79 : World, Chg (fun b => b = b1) w73 w79 → (R false w79))) ∧ (¬ (r70 ≠ r76) → (Calls PP n_vocab_Vocab_Uses #[.pointer r31_0, .string a1] w73 (fun e w82 => ∃ r85 : Int, e = .returned (.int .i64 r85) ∧ w82.heap[b1]? = w73.heap[b1]? ∧ (Calls PP n_ref21_Uses #[a0.v, .string a1] w82 (fun e w88 => ∃ r91 : Int, e = .returned (.int .i64 r91) ∧ w88.heap[b1]? = w82.heap[b1]? ∧ ((r85 ≠ r91 → (∀ w94 : World, Chg (fun b => b = b1) w88 w94 → (R false w94))) ∧ (¬ (r85 ≠ r91) → (Calls PP n_vocab_Vocab_Len #[.pointer r31_0] w88 (fun e w97 => ∃ r100 : Int, e = .returned (.int .i64 r100) ∧ w97.heap[b1]? = w88.heap[b1]? ∧ (∃ z102 : Int, z102 = IntKind.wrap .i64 (256 + ((a0.n : Nat) : Int)) ∧ ((r100 ≠ z102 → (∀ w104 : World, Chg (fun b => b = b1) w97 w104 → (R false w104))) ∧ (¬ (r100 ≠ z102) → (Calls PP n_vocab_Vocab_Longest #[.pointer r31_0, .string a2] w97 (fun e w107 => ∃ r110 : Sl, e = .returned (r110.v) ∧ w107.heap[b1]? = w97.heap[b1]? ∧ (Calls PP n_ref21_Longest #[a0.v, .string a2] w107 (fun e w113 => ∃ r116 : Sl, e = .returned (r116.v) ∧ w113.heap[b1]? = w107.heap[b1]? ∧ (Calls PP n_ref01_Texts #[r110.v, r116.v] w113 (fun e w119 => ∃ r122 : Bool, e = .returned (.bool r122) ∧ w119.heap[b1]? = w113.heap[b1]? ∧ ((r122 = true → (Calls PP n_ref21_Texts #[a0.v] w119 (fun e w126 => ∃ r129 : Sl, e = .returned (r129.v) ∧ w126.heap[b1]? = w119.heap[b1]? ∧ (∀ (b131 : Nat) (w132 : World), Priv w126 b131 w132 → (∀ w136 : World, Chg (fun b => b = b131) w132 w136 → (Calls PP n_vocab_Vocab_Texts #[.pointer r31_0] w136 (fun e w139 => ∃ r142 : Value, e = .returned (r142) ∧ w139.heap[b1]? = w136.heap[b1]? ∧ w139.heap[b131]? = w136.heap[b131]? ∧ (∃ (fn145 : Fn) (fa146 fb147 : Array Value), r142 = .func fn145 fa146 fb147 ∧ (∀ (b148 : Nat) (w149 : World), Priv w139 b148 w149 → (∀ w154 : World, Chg (fun b => b = b148) w149 w154 → (∃ (Fp159 : Nat → Prop) (S160 Sp161 : List ByteArray → Prop) (N162 : Nat), SeqC PP (.func fn145 fa146 fb147) (fun x => #[(fun (x : ByteArray) => .string x) x]) Fp159 S160 Sp161 N162 w154 ∧ ∃ (I164 X171 : List ByteArray → Bool → Int → World → Prop), (∀ (l157 : Bool) (l158 : Int), OwnFrom w154.heap.size fun pre w => I164 pre l157 l158 w) ∧ (∀ (l157 : Bool) (l158 : Int), OwnFrom w154.heap.size fun pre w => X171 pre l157 l158 w) ∧ I164 [] false 0 w154 ∧ (∀ (pre177 : List ByteArray) (x156 : ByteArray) (l157 : Bool) (l158 : Int) (w169 : World), I164 pre177 l157 l158 w169 → pre177.length < N162 → ((((r129.n : Nat) : Int) ≤ l158 → (∀ w181 : World, Chg (fun b => b = b1) w169 w181 → (KO [b1, b131, b148] w169 w181 ∧ X171 (pre177 ++ [x156]) false l158 w181))) ∧ (¬ (((r129.n : Nat) : Int) ≤ l158) → (∃ k183 : Nat, l158 = ((k183 : Nat) : Int) ∧ k183 < r129.n ∧ (∃ (b185 o186 : Nat), r129.b = some ⟨b185, o186, none⟩ ∧ (∃ v188 : ByteArray, w169.cell? ⟨b185, o186 + k183 * 1, none⟩ = some (.string v188) ∧ ((x156 ≠ v188 → (∀ w191 : World, Chg (fun b => b = b1) w169 w191 → (KO [b1, b131, b148] w169 w191 ∧ X171 (pre177 ++ [x156]) false ((k183 : Nat) : Int) w191))) ∧ (¬ (x156 ≠ v188) → (∃ z193 : Int, z193 = IntKind.wrap .i64 (((k183 : Nat) : Int) + 1) ∧ (∀ w194 : World, Chg (fun b => b = b148) w169 w194 → (KO [b1, b131, b148] w169 w194 ∧ KF Fp159 w169 w194 ∧ I164 (pre177 ++ [x156]) l157 z193 w194))))))))))) ∧ (∀ (xs : List ByteArray) (l157 : Bool) (l158 : Int) (w169 : World) (D170 : Nat), w154.heap.size ≤ D170 → D170 < w169.heap.size → S160 xs → I164 xs l157 l158 w169 → (∀ w197 : World, Chg (fun b => b = b1) w169 w197 → (∀ w199 : World, Chg (fun b => b = D170) w197 w199 → (R (decide (l158 = ((r129.n : Nat) : Int))) w199)))) ∧ (∀ (pre : List ByteArray) (l157 : Bool) (l158 : Int) (w169 : World) (D170 : Nat), w154.heap.size ≤ D170 → D170 < w169.heap.size → Sp161 pre → X171 pre l157 l158 w169 → (∀ w202 : World, Chg (fun b => b = D170) w169 w202 → (R l157 w202)))))))))))))) ∧ (r122 = false → (∀ w204 : World, Chg (fun b => b = b1) w119 w204 → (R false w204)))))))))))))))))))))))))))))))))))))))))))))))))))))) ∧ (r9 = false → (∀ w206 : World, Chg (fun b => b = b1) w6 w206 → (R false w206))))))
set_option maxRecDepth 100000 in
theorem vc_law21_VocabTells {a0 : Sl} {a1 : ByteArray} {a2 : ByteArray} {R : Bool → World → Prop} {w : World} (h : VC_law21_VocabTells a0 a1 a2 R w) : Calls PP n_law21_VocabTells #[a0.v, .string a1, .string a2] w fun e w' => ∃ r0 : Bool, e = .returned (.bool r0) ∧ R r0 w' := by
  refine Calls.mono (calls_of_cw (n := 124) (rs := #[.cell 6 4]) (args := [a0.v, .string a1, .string a2]) (R := fun v w' => ∃ r0 : Bool, v = .bool r0 ∧ R r0 w') Try.func3 rfl rfl (Nat.le_of_ble_eq_true rfl) rfl ?_) ?_
  case refine_2 => rintro e w' ⟨v, rfl, hr⟩; obtain ⟨r0, rfl, hr⟩ := hr; exact ⟨r0, rfl, hr⟩
  have hx : Ext w w := Chg.refl _
  unfold VC_law21_VocabTells at h
  refine cw_seq ?_
  refine cw_region ?_
  refine sl_op rfl (al_bool rfl (fun b1 w2 hN3 => ?_))
  have hB4 := hN3.here
  replace h := h b1 w2 ⟨hx.tr hN3.ext, Nat.le_trans hx.size hN3.fresh, lt_of_blk hN3.here⟩
  replace hx : Ext w2 w2 := Chg.refl _
  refine sl_nil ?_
  refine cw_seq ?_
  refine cw_seq ?_
  refine cw_region ?_
  refine sl_op rfl (ok_call c_law21_awake rfl (Calls.mono h (fun e5 w6 hq7 => ?_)))
  clear h
  obtain ⟨r9, he8, hk10, h⟩ := hq7
  refine ⟨_, he8, ?_⟩
  replace hB4 := hk10.trans hB4
  replace hx : Ext w6 w6 := Chg.refl _
  refine sl_v rfl (r_not rfl) ?_
  refine sl_nil ?_
  refine bcases (r9) (fun hb11 => ?_) (fun hb11 => ?_)
  · replace h := h.1 hb11
    refine cw_cf rfl (nt hb11) ?_
    refine cw_skip ?_
    refine cw_seq ?_
    refine cw_seq ?_
    refine cw_region ?_
    refine sl_v rfl (r_mv rfl) ?_
    refine sl_op rfl (ok_call c_ref18_Great rfl (Calls.mono h (fun e12 w13 hq14 => ?_)))
    clear h
    obtain ⟨r16, he15, hk17, h⟩ := hq14
    refine ⟨_, he15, ?_⟩
    replace hB4 := hk17.trans hB4
    replace hx : Ext w13 w13 := Chg.refl _
    refine sl_v rfl (r_mv rfl) ?_
    refine bcases (r16) (fun hb18 => ?_) (fun hb18 => ?_)
    · replace h := h.1 hb18
      refine sl_no rfl rfl rfl hb18 ?_
      refine sl_no rfl rfl rfl hb18 ?_
      refine sl_no rfl rfl rfl hb18 ?_
      refine sl_v rfl (r_pt rfl hb18 rfl) ?_
      refine sl_v rfl (r_mv rfl) ?_
      refine sl_no rfl rfl rfl rfl ?_
      refine sl_no rfl rfl rfl rfl ?_
      refine sl_no rfl rfl rfl rfl ?_
      refine sl_v rfl (r_pt rfl rfl rfl) ?_
      refine sl_nil ?_
      refine cw_ct rfl rfl ?_
      refine cw_seq ?_
      refine cw_region ?_
      refine sl_op rfl (st_bool (vs := [.bool true]) rfl rfl rfl rfl rfl ⟨_, _, hB4, Nat.le_of_ble_eq_true rfl⟩ (fun w19 hw20 => ?_))
      have hc_ := sto_chg hw20
      replace hB4 : w19.heap[b1]? = some (.cells #[.bool true] t_bool (0, 0)) := sto_blk hw20 hB4
      replace h := h w19 (Chg.pre hx hc_)
      replace hx : Ext w19 w19 := Chg.refl _
      clear hc_
      refine sl_nil ?_
      refine cw_ret ?_
      exact rs_1 (rc1 Try.underlying4 rfl rfl (cell_blk hB4 rfl)) ⟨true, rfl, h⟩
    · replace h := h.2 hb18
      refine sl_vg rfl rfl rfl hb18 (r_mv rfl) ?_
      refine sl_vg rfl rfl rfl hb18 (r_len_s rfl rfl Try.underlying9) ?_
      refine sl_vg rfl rfl rfl hb18 (r_gtr rfl rfl) ?_
      refine sl_v rfl (r_pf rfl hb18 rfl) ?_
      refine sl_v rfl (r_mv rfl) ?_
      refine bcases (decide ((300 : Int) < ((a1.size : Nat) : Int))) (fun hb21 => ?_) (fun hb21 => ?_)
      · replace h := h.1 (of_decide_eq_true hb21)
        refine sl_no rfl rfl rfl hb21 ?_
        refine sl_no rfl rfl rfl hb21 ?_
        refine sl_no rfl rfl rfl hb21 ?_
        refine sl_v rfl (r_pt rfl hb21 rfl) ?_
        refine sl_nil ?_
        refine cw_ct rfl rfl ?_
        refine cw_seq ?_
        refine cw_region ?_
        refine sl_op rfl (st_bool (vs := [.bool true]) rfl rfl rfl rfl rfl ⟨_, _, hB4, Nat.le_of_ble_eq_true rfl⟩ (fun w22 hw23 => ?_))
        have hc_ := sto_chg hw23
        replace hB4 : w22.heap[b1]? = some (.cells #[.bool true] t_bool (0, 0)) := sto_blk hw23 hB4
        replace h := h w22 (Chg.pre hx hc_)
        replace hx : Ext w22 w22 := Chg.refl _
        clear hc_
        refine sl_nil ?_
        refine cw_ret ?_
        exact rs_1 (rc1 Try.underlying4 rfl rfl (cell_blk hB4 rfl)) ⟨true, rfl, h⟩
      · replace h := h.2 (of_decide_eq_false hb21)
        refine sl_vg rfl rfl rfl hb21 (r_mv rfl) ?_
        refine sl_vg rfl rfl rfl hb21 (r_len_s rfl rfl Try.underlying9) ?_
        refine sl_vg rfl rfl rfl hb21 (r_gtr rfl rfl) ?_
        refine sl_v rfl (r_pf rfl hb21 rfl) ?_
        refine sl_nil ?_
        refine bcases (decide ((300 : Int) < ((a2.size : Nat) : Int))) (fun hb24 => ?_) (fun hb24 => ?_)
        · replace h := h.1 (of_decide_eq_true hb24)
          refine cw_ct rfl hb24 ?_
          refine cw_seq ?_
          refine cw_region ?_
          refine sl_op rfl (st_bool (vs := [.bool true]) rfl rfl rfl rfl rfl ⟨_, _, hB4, Nat.le_of_ble_eq_true rfl⟩ (fun w25 hw26 => ?_))
          have hc_ := sto_chg hw26
          replace hB4 : w25.heap[b1]? = some (.cells #[.bool true] t_bool (0, 0)) := sto_blk hw26 hB4
          replace h := h w25 (Chg.pre hx hc_)
          replace hx : Ext w25 w25 := Chg.refl _
          clear hc_
          refine sl_nil ?_
          refine cw_ret ?_
          exact rs_1 (rc1 Try.underlying4 rfl rfl (cell_blk hB4 rfl)) ⟨true, rfl, h⟩
        · replace h := h.2 (of_decide_eq_false hb24)
          refine cw_cf rfl hb24 ?_
          refine cw_skip ?_
          refine cw_seq ?_
          refine cw_region ?_
          refine sl_v rfl (r_mv rfl) ?_
          refine sl_op rfl (ok_call c_vocab_New rfl (Calls.mono h (fun e27 w28 hq29 => ?_)))
          clear h
          obtain ⟨r31_0, r31_1, he30, hk32, h⟩ := hq29
          refine ⟨_, he30, ?_⟩
          replace hB4 := hk32.trans hB4
          replace hx : Ext w28 w28 := Chg.refl _
          refine sl_v rfl (r_mv rfl) ?_
          refine sl_v rfl (r_ex rfl rfl) ?_
          refine sl_v rfl (r_ex rfl rfl) ?_
          refine sl_v rfl (r_as rfl) ?_
          refine sl_v rfl (r_as rfl) ?_
          refine sl_nil ?_
          refine cw_seq ?_
          refine cw_region ?_
          refine sl_v rfl (r_mv rfl) ?_
          refine sl_op rfl (ok_call c_ref18_Check rfl (Calls.mono h (fun e33 w34 hq35 => ?_)))
          clear h
          obtain ⟨r37_0, r37_1, he36, hk38, h⟩ := hq35
          refine ⟨_, he36, ?_⟩
          replace hB4 := hk38.trans hB4
          replace hx : Ext w34 w34 := Chg.refl _
          refine sl_v rfl (r_mv rfl) ?_
          refine sl_v rfl (r_ex rfl rfl) ?_
          refine sl_v rfl (r_ex rfl rfl) ?_
          refine sl_v rfl (r_as rfl) ?_
          refine sl_v rfl (r_as rfl) ?_
          refine sl_nil ?_
          refine cw_seq ?_
          refine cw_seq ?_
          refine cw_region ?_
          refine sl_v rfl (r_mv rfl) ?_
          refine sl_v rfl (r_mv rfl) ?_
          refine sl_v rfl (r_neq rfl rfl) ?_
          refine sl_v rfl (r_mv rfl) ?_
          refine bcases (decide (r31_1 ≠ r37_1)) (fun hb39 => ?_) (fun hb39 => ?_)
          · replace h := h.1 (of_decide_eq_true hb39)
            refine sl_no rfl rfl rfl hb39 ?_
            refine sl_no rfl rfl rfl hb39 ?_
            refine sl_no rfl rfl rfl hb39 ?_
            refine sl_no rfl rfl rfl hb39 ?_
            refine sl_no rfl rfl rfl hb39 ?_
            refine sl_v rfl (r_pt rfl hb39 rfl) ?_
            refine sl_nil ?_
            refine cw_ct rfl rfl ?_
            refine cw_seq ?_
            refine cw_region ?_
            refine sl_op rfl (st_bool (vs := [.bool false]) rfl rfl rfl rfl rfl ⟨_, _, hB4, Nat.le_of_ble_eq_true rfl⟩ (fun w40 hw41 => ?_))
            have hc_ := sto_chg hw41
            replace hB4 : w40.heap[b1]? = some (.cells #[.bool false] t_bool (0, 0)) := sto_blk hw41 hB4
            replace h := h w40 (Chg.pre hx hc_)
            replace hx : Ext w40 w40 := Chg.refl _
            clear hc_
            refine sl_nil ?_
            refine cw_ret ?_
            exact rs_1 (rc1 Try.underlying4 rfl rfl (cell_blk hB4 rfl)) ⟨false, rfl, h⟩
          · replace h := h.2 (of_decide_eq_false hb39)
            refine sl_vg rfl rfl rfl hb39 (r_mv rfl) ?_
            refine sl_vg rfl rfl rfl hb39 (p_eqn rfl rfl Try.underlying25) ?_
            refine sl_vg rfl rfl rfl hb39 (r_mv rfl) ?_
            refine sl_vg rfl rfl rfl hb39 (r_neq rfl rfl) ?_
            refine sl_vg rfl rfl rfl hb39 (b_neq rfl rfl Try.underlying4) ?_
            refine sl_v rfl (r_pf rfl hb39 rfl) ?_
            refine sl_nil ?_
            refine bcases (decide ((decide (r31_0 = none)) ≠ (decide (r37_1 ≠ (0 : Int))))) (fun hb42 => ?_) (fun hb42 => ?_)
            · replace h := h.1 (of_decide_eq_true hb42)
              refine cw_ct rfl hb42 ?_
              refine cw_seq ?_
              refine cw_region ?_
              refine sl_op rfl (st_bool (vs := [.bool false]) rfl rfl rfl rfl rfl ⟨_, _, hB4, Nat.le_of_ble_eq_true rfl⟩ (fun w43 hw44 => ?_))
              have hc_ := sto_chg hw44
              replace hB4 : w43.heap[b1]? = some (.cells #[.bool false] t_bool (0, 0)) := sto_blk hw44 hB4
              replace h := h w43 (Chg.pre hx hc_)
              replace hx : Ext w43 w43 := Chg.refl _
              clear hc_
              refine sl_nil ?_
              refine cw_ret ?_
              exact rs_1 (rc1 Try.underlying4 rfl rfl (cell_blk hB4 rfl)) ⟨false, rfl, h⟩
            · replace h := h.2 (of_decide_eq_false hb42)
              refine cw_cf rfl hb42 ?_
              refine cw_skip ?_
              refine cw_seq ?_
              refine cw_seq ?_
              refine cw_region ?_
              refine sl_v rfl (r_mv rfl) ?_
              refine sl_v rfl (r_neq rfl rfl) ?_
              refine sl_v rfl (r_mv rfl) ?_
              refine bcases (decide (r37_1 ≠ (0 : Int))) (fun hb45 => ?_) (fun hb45 => ?_)
              · replace h := h.1 (of_decide_eq_true hb45)
                refine sl_no rfl rfl rfl hb45 ?_
                refine sl_no rfl rfl rfl hb45 ?_
                refine sl_v rfl (r_pt rfl hb45 rfl) ?_
                refine sl_nil ?_
                refine cw_ct rfl rfl ?_
                refine cw_seq ?_
                refine cw_region ?_
                refine sl_op rfl (st_bool (vs := [.bool true]) rfl rfl rfl rfl rfl ⟨_, _, hB4, Nat.le_of_ble_eq_true rfl⟩ (fun w46 hw47 => ?_))
                have hc_ := sto_chg hw47
                replace hB4 : w46.heap[b1]? = some (.cells #[.bool true] t_bool (0, 0)) := sto_blk hw47 hB4
                replace h := h w46 (Chg.pre hx hc_)
                replace hx : Ext w46 w46 := Chg.refl _
                clear hc_
                refine sl_nil ?_
                refine cw_ret ?_
                exact rs_1 (rc1 Try.underlying4 rfl rfl (cell_blk hB4 rfl)) ⟨true, rfl, h⟩
              · replace h := h.2 (of_decide_eq_false hb45)
                refine sl_vg rfl rfl rfl hb45 (r_mv rfl) ?_
                refine sl_vg rfl rfl rfl hb45 (p_eqn rfl rfl Try.underlying25) ?_
                refine sl_v rfl (r_pf rfl hb45 rfl) ?_
                refine sl_nil ?_
                refine bcases (decide (r31_0 = none)) (fun hb48 => ?_) (fun hb48 => ?_)
                · replace h := h.1 (of_decide_eq_true hb48)
                  refine cw_ct rfl hb48 ?_
                  refine cw_seq ?_
                  refine cw_region ?_
                  refine sl_op rfl (st_bool (vs := [.bool true]) rfl rfl rfl rfl rfl ⟨_, _, hB4, Nat.le_of_ble_eq_true rfl⟩ (fun w49 hw50 => ?_))
                  have hc_ := sto_chg hw50
                  replace hB4 : w49.heap[b1]? = some (.cells #[.bool true] t_bool (0, 0)) := sto_blk hw50 hB4
                  replace h := h w49 (Chg.pre hx hc_)
                  replace hx : Ext w49 w49 := Chg.refl _
                  clear hc_
                  refine sl_nil ?_
                  refine cw_ret ?_
                  exact rs_1 (rc1 Try.underlying4 rfl rfl (cell_blk hB4 rfl)) ⟨true, rfl, h⟩
                · replace h := h.2 (of_decide_eq_false hb48)
                  refine cw_cf rfl hb48 ?_
                  refine cw_skip ?_
                  refine cw_seq ?_
                  refine cw_seq ?_
                  refine cw_region ?_
                  refine sl_v rfl (r_mv rfl) ?_
                  refine sl_v rfl (r_mv rfl) ?_
                  refine sl_op rfl (ok_call c_vocab_Vocab_Has rfl (Calls.mono h (fun e51 w52 hq53 => ?_)))
                  clear h
                  obtain ⟨r55, he54, hk56, h⟩ := hq53
                  refine ⟨_, he54, ?_⟩
                  replace hB4 := hk56.trans hB4
                  replace hx : Ext w52 w52 := Chg.refl _
                  refine sl_v rfl (r_mv rfl) ?_
                  refine sl_v rfl (r_mv rfl) ?_
                  refine sl_op rfl (ok_call c_ref21_Has rfl (Calls.mono h (fun e57 w58 hq59 => ?_)))
                  clear h
                  obtain ⟨r61, he60, hk62, h⟩ := hq59
                  refine ⟨_, he60, ?_⟩
                  replace hB4 := hk62.trans hB4
                  replace hx : Ext w58 w58 := Chg.refl _
                  refine sl_v rfl (b_neq rfl rfl Try.underlying4) ?_
                  refine sl_v rfl (r_mv rfl) ?_
                  refine bcases (decide (r55 ≠ r61)) (fun hb63 => ?_) (fun hb63 => ?_)
                  · replace h := h.1 (of_decide_eq_true hb63)
                    refine sl_no rfl rfl rfl hb63 ?_
                    refine sl_no rfl rfl rfl hb63 ?_
                    refine sl_no rfl rfl rfl hb63 ?_
                    refine sl_no rfl rfl rfl hb63 ?_
                    refine sl_no rfl rfl rfl hb63 ?_
                    refine sl_no rfl rfl rfl hb63 ?_
                    refine sl_no rfl rfl rfl hb63 ?_
                    refine sl_v rfl (r_pt rfl hb63 rfl) ?_
                    refine sl_v rfl (r_mv rfl) ?_
                    refine sl_no rfl rfl rfl rfl ?_
                    refine sl_no rfl rfl rfl rfl ?_
                    refine sl_no rfl rfl rfl rfl ?_
                    refine sl_no rfl rfl rfl rfl ?_
                    refine sl_no rfl rfl rfl rfl ?_
                    refine sl_no rfl rfl rfl rfl ?_
                    refine sl_no rfl rfl rfl rfl ?_
                    refine sl_v rfl (r_pt rfl rfl rfl) ?_
                    refine sl_v rfl (r_mv rfl) ?_
                    refine sl_no rfl rfl rfl rfl ?_
                    refine sl_no rfl rfl rfl rfl ?_
                    refine sl_no rfl rfl rfl rfl ?_
                    refine sl_no rfl rfl rfl rfl ?_
                    refine sl_no rfl rfl rfl rfl ?_
                    refine sl_no rfl rfl rfl rfl ?_
                    refine sl_v rfl (r_pt rfl rfl rfl) ?_
                    refine sl_v rfl (r_mv rfl) ?_
                    refine sl_no rfl rfl rfl rfl ?_
                    refine sl_no rfl rfl rfl rfl ?_
                    refine sl_no rfl rfl rfl rfl ?_
                    refine sl_no rfl rfl rfl rfl ?_
                    refine sl_no rfl rfl rfl rfl ?_
                    refine sl_no rfl rfl rfl rfl ?_
                    refine sl_no rfl rfl rfl rfl ?_
                    refine sl_no rfl rfl rfl rfl ?_
                    refine sl_v rfl (r_pt rfl rfl rfl) ?_
                    refine sl_nil ?_
                    refine cw_ct rfl rfl ?_
                    refine cw_seq ?_
                    refine cw_region ?_
                    refine sl_op rfl (st_bool (vs := [.bool false]) rfl rfl rfl rfl rfl ⟨_, _, hB4, Nat.le_of_ble_eq_true rfl⟩ (fun w64 hw65 => ?_))
                    have hc_ := sto_chg hw65
                    replace hB4 : w64.heap[b1]? = some (.cells #[.bool false] t_bool (0, 0)) := sto_blk hw65 hB4
                    replace h := h w64 (Chg.pre hx hc_)
                    replace hx : Ext w64 w64 := Chg.refl _
                    clear hc_
                    refine sl_nil ?_
                    refine cw_ret ?_
                    exact rs_1 (rc1 Try.underlying4 rfl rfl (cell_blk hB4 rfl)) ⟨false, rfl, h⟩
                  · replace h := h.2 (of_decide_eq_false hb63)
                    refine sl_vg rfl rfl rfl hb63 (r_mv rfl) ?_
                    refine sl_vg rfl rfl rfl hb63 (r_mv rfl) ?_
                    refine sl_g rfl rfl rfl hb63 (ok_call c_vocab_Vocab_Depth rfl (Calls.mono h (fun e66 w67 hq68 => ?_)))
                    clear h
                    obtain ⟨r70, he69, hk71, h⟩ := hq68
                    refine ⟨_, he69, ?_⟩
                    replace hB4 := hk71.trans hB4
                    replace hx : Ext w67 w67 := Chg.refl _
                    refine sl_vg rfl rfl rfl hb63 (r_mv rfl) ?_
                    refine sl_vg rfl rfl rfl hb63 (r_mv rfl) ?_
                    refine sl_g rfl rfl rfl hb63 (ok_call c_ref21_Depth rfl (Calls.mono h (fun e72 w73 hq74 => ?_)))
                    clear h
                    obtain ⟨r76, he75, hk77, h⟩ := hq74
                    refine ⟨_, he75, ?_⟩
                    replace hB4 := hk77.trans hB4
                    replace hx : Ext w73 w73 := Chg.refl _
                    refine sl_vg rfl rfl rfl hb63 (r_neq rfl rfl) ?_
                    refine sl_v rfl (r_pf rfl hb63 rfl) ?_
                    refine sl_v rfl (r_mv rfl) ?_
                    refine bcases (decide (r70 ≠ r76)) (fun hb78 => ?_) (fun hb78 => ?_)
                    · replace h := h.1 (of_decide_eq_true hb78)
                      refine sl_no rfl rfl rfl hb78 ?_
                      refine sl_no rfl rfl rfl hb78 ?_
                      refine sl_no rfl rfl rfl hb78 ?_
                      refine sl_no rfl rfl rfl hb78 ?_
                      refine sl_no rfl rfl rfl hb78 ?_
                      refine sl_no rfl rfl rfl hb78 ?_
                      refine sl_no rfl rfl rfl hb78 ?_
                      refine sl_v rfl (r_pt rfl hb78 rfl) ?_
                      refine sl_v rfl (r_mv rfl) ?_
                      refine sl_no rfl rfl rfl rfl ?_
                      refine sl_no rfl rfl rfl rfl ?_
                      refine sl_no rfl rfl rfl rfl ?_
                      refine sl_no rfl rfl rfl rfl ?_
                      refine sl_no rfl rfl rfl rfl ?_
                      refine sl_no rfl rfl rfl rfl ?_
                      refine sl_v rfl (r_pt rfl rfl rfl) ?_
                      refine sl_v rfl (r_mv rfl) ?_
                      refine sl_no rfl rfl rfl rfl ?_
                      refine sl_no rfl rfl rfl rfl ?_
                      refine sl_no rfl rfl rfl rfl ?_
                      refine sl_no rfl rfl rfl rfl ?_
                      refine sl_no rfl rfl rfl rfl ?_
                      refine sl_no rfl rfl rfl rfl ?_
                      refine sl_no rfl rfl rfl rfl ?_
                      refine sl_no rfl rfl rfl rfl ?_
                      refine sl_v rfl (r_pt rfl rfl rfl) ?_
                      refine sl_nil ?_
                      refine cw_ct rfl rfl ?_
                      refine cw_seq ?_
                      refine cw_region ?_
                      refine sl_op rfl (st_bool (vs := [.bool false]) rfl rfl rfl rfl rfl ⟨_, _, hB4, Nat.le_of_ble_eq_true rfl⟩ (fun w79 hw80 => ?_))
                      have hc_ := sto_chg hw80
                      replace hB4 : w79.heap[b1]? = some (.cells #[.bool false] t_bool (0, 0)) := sto_blk hw80 hB4
                      replace h := h w79 (Chg.pre hx hc_)
                      replace hx : Ext w79 w79 := Chg.refl _
                      clear hc_
                      refine sl_nil ?_
                      refine cw_ret ?_
                      exact rs_1 (rc1 Try.underlying4 rfl rfl (cell_blk hB4 rfl)) ⟨false, rfl, h⟩
                    · replace h := h.2 (of_decide_eq_false hb78)
                      refine sl_vg rfl rfl rfl hb78 (r_mv rfl) ?_
                      refine sl_vg rfl rfl rfl hb78 (r_mv rfl) ?_
                      refine sl_g rfl rfl rfl hb78 (ok_call c_vocab_Vocab_Uses rfl (Calls.mono h (fun e81 w82 hq83 => ?_)))
                      clear h
                      obtain ⟨r85, he84, hk86, h⟩ := hq83
                      refine ⟨_, he84, ?_⟩
                      replace hB4 := hk86.trans hB4
                      replace hx : Ext w82 w82 := Chg.refl _
                      refine sl_vg rfl rfl rfl hb78 (r_mv rfl) ?_
                      refine sl_vg rfl rfl rfl hb78 (r_mv rfl) ?_
                      refine sl_g rfl rfl rfl hb78 (ok_call c_ref21_Uses rfl (Calls.mono h (fun e87 w88 hq89 => ?_)))
                      clear h
                      obtain ⟨r91, he90, hk92, h⟩ := hq89
                      refine ⟨_, he90, ?_⟩
                      replace hB4 := hk92.trans hB4
                      replace hx : Ext w88 w88 := Chg.refl _
                      refine sl_vg rfl rfl rfl hb78 (r_neq rfl rfl) ?_
                      refine sl_v rfl (r_pf rfl hb78 rfl) ?_
                      refine sl_v rfl (r_mv rfl) ?_
                      refine bcases (decide (r85 ≠ r91)) (fun hb93 => ?_) (fun hb93 => ?_)
                      · replace h := h.1 (of_decide_eq_true hb93)
                        refine sl_no rfl rfl rfl hb93 ?_
                        refine sl_no rfl rfl rfl hb93 ?_
                        refine sl_no rfl rfl rfl hb93 ?_
                        refine sl_no rfl rfl rfl hb93 ?_
                        refine sl_no rfl rfl rfl hb93 ?_
                        refine sl_no rfl rfl rfl hb93 ?_
                        refine sl_v rfl (r_pt rfl hb93 rfl) ?_
                        refine sl_v rfl (r_mv rfl) ?_
                        refine sl_no rfl rfl rfl rfl ?_
                        refine sl_no rfl rfl rfl rfl ?_
                        refine sl_no rfl rfl rfl rfl ?_
                        refine sl_no rfl rfl rfl rfl ?_
                        refine sl_no rfl rfl rfl rfl ?_
                        refine sl_no rfl rfl rfl rfl ?_
                        refine sl_no rfl rfl rfl rfl ?_
                        refine sl_no rfl rfl rfl rfl ?_
                        refine sl_v rfl (r_pt rfl rfl rfl) ?_
                        refine sl_nil ?_
                        refine cw_ct rfl rfl ?_
                        refine cw_seq ?_
                        refine cw_region ?_
                        refine sl_op rfl (st_bool (vs := [.bool false]) rfl rfl rfl rfl rfl ⟨_, _, hB4, Nat.le_of_ble_eq_true rfl⟩ (fun w94 hw95 => ?_))
                        have hc_ := sto_chg hw95
                        replace hB4 : w94.heap[b1]? = some (.cells #[.bool false] t_bool (0, 0)) := sto_blk hw95 hB4
                        replace h := h w94 (Chg.pre hx hc_)
                        replace hx : Ext w94 w94 := Chg.refl _
                        clear hc_
                        refine sl_nil ?_
                        refine cw_ret ?_
                        exact rs_1 (rc1 Try.underlying4 rfl rfl (cell_blk hB4 rfl)) ⟨false, rfl, h⟩
                      · replace h := h.2 (of_decide_eq_false hb93)
                        refine sl_vg rfl rfl rfl hb93 (r_mv rfl) ?_
                        refine sl_g rfl rfl rfl hb93 (ok_call c_vocab_Vocab_Len rfl (Calls.mono h (fun e96 w97 hq98 => ?_)))
                        clear h
                        obtain ⟨r100, he99, hk101, h⟩ := hq98
                        refine ⟨_, he99, ?_⟩
                        replace hB4 := hk101.trans hB4
                        replace hx : Ext w97 w97 := Chg.refl _
                        refine sl_vg rfl rfl rfl hb93 (r_mv rfl) ?_
                        refine sl_vg rfl rfl rfl hb93 (r_len_l (s := a0) rfl rfl Try.underlying22) ?_
                        obtain ⟨z102, hz102, h⟩ := h
                        refine sl_vg rfl rfl rfl hb93 (r_add rfl rfl hz102) ?_
                        refine sl_vg rfl rfl rfl hb93 (r_neq rfl rfl) ?_
                        refine sl_v rfl (r_pf rfl hb93 rfl) ?_
                        refine sl_v rfl (r_mv rfl) ?_
                        refine bcases (decide (r100 ≠ z102)) (fun hb103 => ?_) (fun hb103 => ?_)
                        · replace h := h.1 (of_decide_eq_true hb103)
                          refine sl_no rfl rfl rfl hb103 ?_
                          refine sl_no rfl rfl rfl hb103 ?_
                          refine sl_no rfl rfl rfl hb103 ?_
                          refine sl_no rfl rfl rfl hb103 ?_
                          refine sl_no rfl rfl rfl hb103 ?_
                          refine sl_no rfl rfl rfl hb103 ?_
                          refine sl_no rfl rfl rfl hb103 ?_
                          refine sl_no rfl rfl rfl hb103 ?_
                          refine sl_v rfl (r_pt rfl hb103 rfl) ?_
                          refine sl_nil ?_
                          refine cw_ct rfl rfl ?_
                          refine cw_seq ?_
                          refine cw_region ?_
                          refine sl_op rfl (st_bool (vs := [.bool false]) rfl rfl rfl rfl rfl ⟨_, _, hB4, Nat.le_of_ble_eq_true rfl⟩ (fun w104 hw105 => ?_))
                          have hc_ := sto_chg hw105
                          replace hB4 : w104.heap[b1]? = some (.cells #[.bool false] t_bool (0, 0)) := sto_blk hw105 hB4
                          replace h := h w104 (Chg.pre hx hc_)
                          replace hx : Ext w104 w104 := Chg.refl _
                          clear hc_
                          refine sl_nil ?_
                          refine cw_ret ?_
                          exact rs_1 (rc1 Try.underlying4 rfl rfl (cell_blk hB4 rfl)) ⟨false, rfl, h⟩
                        · replace h := h.2 (of_decide_eq_false hb103)
                          refine sl_vg rfl rfl rfl hb103 (r_mv rfl) ?_
                          refine sl_vg rfl rfl rfl hb103 (r_mv rfl) ?_
                          refine sl_g rfl rfl rfl hb103 (ok_call c_vocab_Vocab_Longest rfl (Calls.mono h (fun e106 w107 hq108 => ?_)))
                          clear h
                          obtain ⟨r110, he109, hk111, h⟩ := hq108
                          refine ⟨_, he109, ?_⟩
                          replace hB4 := hk111.trans hB4
                          replace hx : Ext w107 w107 := Chg.refl _
                          refine sl_vg rfl rfl rfl hb103 (r_mv rfl) ?_
                          refine sl_vg rfl rfl rfl hb103 (r_mv rfl) ?_
                          refine sl_g rfl rfl rfl hb103 (ok_call c_ref21_Longest rfl (Calls.mono h (fun e112 w113 hq114 => ?_)))
                          clear h
                          obtain ⟨r116, he115, hk117, h⟩ := hq114
                          refine ⟨_, he115, ?_⟩
                          replace hB4 := hk117.trans hB4
                          replace hx : Ext w113 w113 := Chg.refl _
                          refine sl_g rfl rfl rfl hb103 (ok_call c_ref01_Texts rfl (Calls.mono h (fun e118 w119 hq120 => ?_)))
                          clear h
                          obtain ⟨r122, he121, hk123, h⟩ := hq120
                          refine ⟨_, he121, ?_⟩
                          replace hB4 := hk123.trans hB4
                          replace hx : Ext w119 w119 := Chg.refl _
                          refine sl_vg rfl rfl rfl hb103 (r_not rfl) ?_
                          refine sl_v rfl (r_pf rfl hb103 rfl) ?_
                          refine sl_nil ?_
                          refine bcases (r122) (fun hb124 => ?_) (fun hb124 => ?_)
                          · replace h := h.1 hb124
                            refine cw_cf rfl (nt hb124) ?_
                            refine cw_skip ?_
                            refine cw_seq ?_
                            refine cw_region ?_
                            refine sl_v rfl (r_mv rfl) ?_
                            refine sl_op rfl (ok_call c_ref21_Texts rfl (Calls.mono h (fun e125 w126 hq127 => ?_)))
                            clear h
                            obtain ⟨r129, he128, hk130, h⟩ := hq127
                            refine ⟨_, he128, ?_⟩
                            replace hB4 := hk130.trans hB4
                            replace hx : Ext w126 w126 := Chg.refl _
                            refine sl_op rfl (al_sl_string rfl (fun b131 w132 hN133 => ?_))
                            have hne134 : b1 ≠ b131 := Nat.ne_of_lt (Nat.lt_of_lt_of_le (lt_of_blk hB4) hN133.fresh)
                            replace hB4 := hN133.ext.get hB4
                            have hB135 := hN133.here
                            replace h := h b131 w132 ⟨hx.tr hN133.ext, Nat.le_trans hx.size hN133.fresh, lt_of_blk hN133.here⟩
                            replace hx : Ext w132 w132 := Chg.refl _
                            refine sl_op rfl (st_sl_string (vs := [r129.v]) rfl rfl rfl rfl rfl ⟨_, _, hB135, Nat.le_of_ble_eq_true rfl⟩ (fun w136 hw137 => ?_))
                            have hc_ := sto_chg hw137
                            replace hB4 := hc_.get hB4 hne134
                            replace hB135 : w136.heap[b131]? = some (.cells #[r129.v] t_sl_string (0, 0)) := sto_blk hw137 hB135
                            replace h := h w136 (Chg.pre hx hc_)
                            replace hx : Ext w136 w136 := Chg.refl _
                            clear hc_
                            refine sl_nil ?_
                            refine cw_seq ?_
                            refine cw_region ?_
                            refine sl_v rfl (r_mv rfl) ?_
                            refine sl_op rfl (ok_call c_vocab_Vocab_Texts rfl (Calls.mono h (fun e138 w139 hq140 => ?_)))
                            clear h
                            obtain ⟨r142, he141, hk143, hk144, h⟩ := hq140
                            refine ⟨_, he141, ?_⟩
                            replace hB4 := hk143.trans hB4
                            replace hB135 := hk144.trans hB135
                            replace hx : Ext w139 w139 := Chg.refl _
                            refine sl_v rfl (r_as rfl) ?_
                            refine sl_nil ?_
                            refine cw_seq ?_
                            refine cw_seq ?_
                            refine cw_region ?_
                            refine sl_v rfl (r_mv rfl) ?_
                            obtain ⟨fn145, fa146, fb147, rfl, h⟩ := h
                            refine sl_v rfl (f_eqn Try.underlying42 rfl rfl rfl) ?_
                            refine sl_nil ?_
                            refine cw_cf rfl rfl ?_
                            refine cw_skip ?_
                            refine cw_seq ?_
                            refine cw_region ?_
                            refine sl_op rfl (al_int rfl (fun b148 w149 hN150 => ?_))
                            have hne151 : b1 ≠ b148 := Nat.ne_of_lt (Nat.lt_of_lt_of_le (lt_of_blk hB4) hN150.fresh)
                            have hne152 : b131 ≠ b148 := Nat.ne_of_lt (Nat.lt_of_lt_of_le (lt_of_blk hB135) hN150.fresh)
                            replace hB4 := hN150.ext.get hB4
                            replace hB135 := hN150.ext.get hB135
                            have hB153 := hN150.here
                            replace h := h b148 w149 ⟨hx.tr hN150.ext, Nat.le_trans hx.size hN150.fresh, lt_of_blk hN150.here⟩
                            replace hx : Ext w149 w149 := Chg.refl _
                            refine sl_op rfl (st_int (vs := [.int .i64 0]) rfl rfl rfl rfl rfl ⟨_, _, hB153, Nat.le_of_ble_eq_true rfl⟩ (fun w154 hw155 => ?_))
                            have hc_ := sto_chg hw155
                            replace hB4 := hc_.get hB4 hne151
                            replace hB135 := hc_.get hB135 hne152
                            replace hB153 : w154.heap[b148]? = some (.cells #[.int .i64 0] t_int (0, 0)) := sto_blk hw155 hB153
                            replace h := h w154 (Chg.pre hx hc_)
                            replace hx : Ext w154 w154 := Chg.refl _
                            clear hc_
                            refine sl_nil ?_
                            refine cw_seq ?_
                            refine cw_seq ?_
                            refine cw_region ?_
                            refine sl_v rfl (r_mv rfl) ?_
                            refine sl_nil ?_
                            refine cw_block ?_
                            obtain ⟨Fp159, S160, Sp161, N162, hs163, I164, X171, hI165, hX172, h0166, hB167, hD168, h⟩ := h
                            refine cw_rf (α := ByteArray) rfl hs163 (fun _ => rfl) (asg_one (Nat.le_of_ble_eq_true rfl)) (fun pre w => ∃ (l157 : Bool) (l158 : Int), w.heap[b1]? = some (.cells #[.bool l157] t_bool (0, 0)) ∧ w.heap[b131]? = some (.cells #[r129.v] t_sl_string (0, 0)) ∧ w.heap[b148]? = some (.cells #[.int .i64 l158] t_int (0, 0)) ∧ I164 pre l157 l158 w) (fun c pre w => (c = .ret ∧ ∃ (l157 : Bool) (l158 : Int), w.heap[b1]? = some (.cells #[.bool l157] t_bool (0, 0)) ∧ w.heap[b131]? = some (.cells #[r129.v] t_sl_string (0, 0)) ∧ w.heap[b148]? = some (.cells #[.int .i64 l158] t_int (0, 0)) ∧ X171 pre l157 l158 w)) ?_ ?_ ⟨false, 0, hB4, hB135, hB153, h0166⟩ ?_ ?_ ?_ ?_ ?_
                            · rintro pre_ w_ w2_ row_ ⟨l157, l158, hB174, hB175, hB176, hi_⟩ hg_ hr_
                              exact ⟨l157, l158, own_cells hB174 hg_ hr_, own_cells hB175 hg_ hr_, own_cells hB176 hg_ hr_, hI165 l157 l158 _ _ _ _ hi_ hg_ hr_⟩
                            · intro c_ pre_ w_ w2_ row_ hx_ hg_ hr_
                              rcases hx_ with ⟨e_, l157, l158, hB174, hB175, hB176, hi_⟩
                              · exact ⟨e_, ⟨l157, l158, own_cells hB174 hg_ hr_, own_cells hB175 hg_ hr_, own_cells hB176 hg_ hr_, hX172 l157 l158 _ _ _ _ hi_ hg_ hr_⟩⟩
                            · rintro l178 pre177 x156 w169 ⟨l157, l158, hB174, hB175, hB176, hi_⟩ hl179
                              replace h := hB167 pre177 x156 l157 l158 w169 hi_ hl179
                              have hx : Ext w169 w169 := Chg.refl _
                              have hc0_b1 := hB174
                              have hc0_b131 := hB175
                              have hc0_b148 := hB176
                              refine cw_block ?_
                              refine cw_seq ?_
                              refine cw_seq ?_
                              refine cw_region ?_
                              refine sl_v rfl (ld_int rfl (cell_blk hB176 rfl)) ?_
                              refine sl_v rfl (ld_sl_string rfl (cell_blk hB175 rfl)) ?_
                              refine sl_v rfl (r_len_l (s := r129) rfl rfl Try.underlying37) ?_
                              refine sl_v rfl (r_geq rfl rfl) ?_
                              refine sl_v rfl (r_mv rfl) ?_
                              refine bcases (decide (((r129.n : Nat) : Int) ≤ l158)) (fun hb180 => ?_) (fun hb180 => ?_)
                              · replace h := h.1 (of_decide_eq_true hb180)
                                refine sl_no rfl rfl rfl hb180 ?_
                                refine sl_no rfl rfl rfl hb180 ?_
                                refine sl_no rfl rfl rfl hb180 ?_
                                refine sl_no rfl rfl rfl hb180 ?_
                                refine sl_no rfl rfl rfl hb180 ?_
                                refine sl_no rfl rfl rfl hb180 ?_
                                refine sl_v rfl (r_pt rfl hb180 rfl) ?_
                                refine sl_nil ?_
                                refine cw_ct rfl rfl ?_
                                refine cw_seq ?_
                                refine cw_region ?_
                                refine sl_op rfl (st_bool (vs := [.bool false]) rfl rfl rfl rfl rfl ⟨_, _, hB174, Nat.le_of_ble_eq_true rfl⟩ (fun w181 hw182 => ?_))
                                have hc_ := sto_chg hw182
                                replace hB175 := hc_.get hB175 hne134.symm
                                replace hB176 := hc_.get hB176 hne151.symm
                                replace hB174 : w181.heap[b1]? = some (.cells #[.bool false] t_bool (0, 0)) := sto_blk hw182 hB174
                                replace h := h w181 (Chg.pre hx hc_)
                                replace hx : Ext w181 w181 := Chg.refl _
                                clear hc_
                                refine sl_nil ?_
                                refine cw_ret ?_
                                exact ⟨h.1.keeps (cells_cons hc0_b1 (cells_cons hc0_b131 (cells_cons hc0_b148 cells_nil))), ⟨rfl, ⟨false, l158, hB174, hB175, hB176, h.2⟩⟩⟩
                              · replace h := h.2 (of_decide_eq_false hb180)
                                refine sl_vg rfl rfl rfl hb180 (r_mv rfl) ?_
                                refine sl_vg rfl rfl rfl hb180 (ld_sl_string rfl (cell_blk hB175 rfl)) ?_
                                refine sl_vg rfl rfl rfl hb180 (ld_int rfl (cell_blk hB176 rfl)) ?_
                                obtain ⟨k183, rfl, hk184, h⟩ := h
                                obtain ⟨b185, o186, hb187, h⟩ := h
                                refine sl_vg rfl rfl rfl hb180 (ia_sl_string (s := r129) (j := k183) (o' := o186 + k183 * 1) rfl rfl hk184 hb187 rfl) ?_
                                obtain ⟨v188, hc189, h⟩ := h
                                refine sl_vg rfl rfl rfl hb180 (ld_string rfl hc189) ?_
                                refine sl_vg rfl rfl rfl hb180 (s_neq rfl rfl) ?_
                                refine sl_v rfl (r_pf rfl hb180 rfl) ?_
                                refine sl_nil ?_
                                refine bcases (decide (x156 ≠ v188)) (fun hb190 => ?_) (fun hb190 => ?_)
                                · replace h := h.1 (of_decide_eq_true hb190)
                                  refine cw_ct rfl hb190 ?_
                                  refine cw_seq ?_
                                  refine cw_region ?_
                                  refine sl_op rfl (st_bool (vs := [.bool false]) rfl rfl rfl rfl rfl ⟨_, _, hB174, Nat.le_of_ble_eq_true rfl⟩ (fun w191 hw192 => ?_))
                                  have hc_ := sto_chg hw192
                                  replace hB175 := hc_.get hB175 hne134.symm
                                  replace hB176 := hc_.get hB176 hne151.symm
                                  replace hB174 : w191.heap[b1]? = some (.cells #[.bool false] t_bool (0, 0)) := sto_blk hw192 hB174
                                  replace h := h w191 (Chg.pre hx hc_)
                                  replace hx : Ext w191 w191 := Chg.refl _
                                  clear hc_
                                  refine sl_nil ?_
                                  refine cw_ret ?_
                                  exact ⟨h.1.keeps (cells_cons hc0_b1 (cells_cons hc0_b131 (cells_cons hc0_b148 cells_nil))), ⟨rfl, ⟨false, ((k183 : Nat) : Int), hB174, hB175, hB176, h.2⟩⟩⟩
                                · replace h := h.2 (of_decide_eq_false hb190)
                                  refine cw_cf rfl hb190 ?_
                                  refine cw_skip ?_
                                  refine cw_region ?_
                                  refine sl_v rfl (ld_int rfl (cell_blk hB176 rfl)) ?_
                                  obtain ⟨z193, hz193, h⟩ := h
                                  refine sl_v rfl (r_add rfl rfl hz193) ?_
                                  refine sl_op rfl (st_int (vs := [.int .i64 z193]) rfl rfl rfl rfl rfl ⟨_, _, hB176, Nat.le_of_ble_eq_true rfl⟩ (fun w194 hw195 => ?_))
                                  have hc_ := sto_chg hw195
                                  replace hB174 := hc_.get hB174 hne151
                                  replace hB175 := hc_.get hB175 hne152
                                  replace hB176 : w194.heap[b148]? = some (.cells #[.int .i64 z193] t_int (0, 0)) := sto_blk hw195 hB176
                                  replace h := h w194 (Chg.pre hx hc_)
                                  replace hx : Ext w194 w194 := Chg.refl _
                                  clear hc_
                                  refine sl_nil ?_
                                  exact ⟨h.1.keeps (cells_cons hc0_b1 (cells_cons hc0_b131 (cells_cons hc0_b148 cells_nil))), h.2.1, ⟨l157, z193, hB174, hB175, hB176, h.2.2⟩⟩
                            · rintro D170 xs_ w169 hD_ hS_ ⟨l157, l158, hB174, hB175, hB176, hi_⟩ hk_
                              replace h := hD168 xs_ l157 l158 w169 D170 hD_ (lt_of_blk hk_) hS_ hi_
                              have hx : Ext w169 w169 := Chg.refl _
                              have hne_b1_D170 : b1 ≠ D170 := Nat.ne_of_lt (Nat.lt_of_lt_of_le (lt_of_blk hB4) hD_)
                              have hne_b131_D170 : b131 ≠ D170 := Nat.ne_of_lt (Nat.lt_of_lt_of_le (lt_of_blk hB135) hD_)
                              have hne_b148_D170 : b148 ≠ D170 := Nat.ne_of_lt (Nat.lt_of_lt_of_le (lt_of_blk hB153) hD_)
                              refine cw_seq ?_
                              refine cw_region ?_
                              refine sl_v rfl (ld_int rfl (cell_blk hB176 rfl)) ?_
                              refine sl_v rfl (ld_sl_string rfl (cell_blk hB175 rfl)) ?_
                              refine sl_v rfl (r_len_l (s := r129) rfl rfl Try.underlying37) ?_
                              refine sl_v rfl (r_eql rfl rfl) ?_
                              refine sl_op rfl (st_bool (vs := [.bool (decide (l158 = ((r129.n : Nat) : Int)))]) rfl rfl rfl rfl rfl ⟨_, _, hB174, Nat.le_of_ble_eq_true rfl⟩ (fun w197 hw198 => ?_))
                              have hc_ := sto_chg hw198
                              replace hB175 := hc_.get hB175 hne134.symm
                              replace hB176 := hc_.get hB176 hne151.symm
                              replace hk_ := hc_.get hk_ hne_b1_D170.symm
                              replace hB174 : w197.heap[b1]? = some (.cells #[.bool (decide (l158 = ((r129.n : Nat) : Int)))] t_bool (0, 0)) := sto_blk hw198 hB174
                              replace h := h w197 (Chg.pre hx hc_)
                              replace hx : Ext w197 w197 := Chg.refl _
                              clear hc_
                              refine sl_nil ?_
                              refine cw_ret ?_
                              refine rs_mk rfl hk_ (fun w199 hc200 => ?_)
                              replace h := h w199 hc200
                              replace hB174 := hc200.get hB174 hne_b1_D170
                              replace hB175 := hc200.get hB175 hne_b131_D170
                              replace hB176 := hc200.get hB176 hne_b148_D170
                              replace hx : Ext w199 w199 := Chg.refl _
                              exact rs_1 (rc1 Try.underlying4 rfl rfl (cell_blk hB174 rfl)) ⟨decide (l158 = ((r129.n : Nat) : Int)), rfl, h⟩
                            · rintro D170 pre_ w169 hD_ hS_ hx_ hk_
                              rcases hx_ with ⟨e_, l157, l158, hB174, hB175, hB176, hi_⟩
                              ·
                                replace h := h pre_ l157 l158 w169 D170 hD_ (lt_of_blk hk_) hS_ hi_
                                have hx : Ext w169 w169 := Chg.refl _
                                have hne_b1_D170 : b1 ≠ D170 := Nat.ne_of_lt (Nat.lt_of_lt_of_le (lt_of_blk hB4) hD_)
                                have hne_b131_D170 : b131 ≠ D170 := Nat.ne_of_lt (Nat.lt_of_lt_of_le (lt_of_blk hB135) hD_)
                                have hne_b148_D170 : b148 ≠ D170 := Nat.ne_of_lt (Nat.lt_of_lt_of_le (lt_of_blk hB153) hD_)
                                refine rs_mk rfl hk_ (fun w202 hc203 => ?_)
                                replace h := h w202 hc203
                                replace hB174 := hc203.get hB174 hne_b1_D170
                                replace hB175 := hc203.get hB175 hne_b131_D170
                                replace hB176 := hc203.get hB176 hne_b148_D170
                                replace hx : Ext w202 w202 := Chg.refl _
                                exact rs_1 (rc1 Try.underlying4 rfl rfl (cell_blk hB174 rfl)) ⟨l157, rfl, h⟩
                            · rintro D170 id_ pre_ w169 hD_ hS_ hx_ hk_
                              rcases hx_ with ⟨e_, l157, l158, hB174, hB175, hB176, hi_⟩
                              ·
                                cases e_
                            · intro c_ pre_ w_ hx_
                              rcases hx_ with ⟨e_, -⟩
                              · exact .inl e_
                          · replace h := h.2 hb124
                            refine cw_ct rfl (nf hb124) ?_
                            refine cw_seq ?_
                            refine cw_region ?_
                            refine sl_op rfl (st_bool (vs := [.bool false]) rfl rfl rfl rfl rfl ⟨_, _, hB4, Nat.le_of_ble_eq_true rfl⟩ (fun w204 hw205 => ?_))
                            have hc_ := sto_chg hw205
                            replace hB4 : w204.heap[b1]? = some (.cells #[.bool false] t_bool (0, 0)) := sto_blk hw205 hB4
                            replace h := h w204 (Chg.pre hx hc_)
                            replace hx : Ext w204 w204 := Chg.refl _
                            clear hc_
                            refine sl_nil ?_
                            refine cw_ret ?_
                            exact rs_1 (rc1 Try.underlying4 rfl rfl (cell_blk hB4 rfl)) ⟨false, rfl, h⟩
  · replace h := h.2 hb11
    refine cw_ct rfl (nf hb11) ?_
    refine cw_seq ?_
    refine cw_region ?_
    refine sl_op rfl (st_bool (vs := [.bool false]) rfl rfl rfl rfl rfl ⟨_, _, hB4, Nat.le_of_ble_eq_true rfl⟩ (fun w206 hw207 => ?_))
    have hc_ := sto_chg hw207
    replace hB4 : w206.heap[b1]? = some (.cells #[.bool false] t_bool (0, 0)) := sto_blk hw207 hB4
    replace h := h w206 (Chg.pre hx hc_)
    replace hx : Ext w206 w206 := Chg.refl _
    clear hc_
    refine sl_nil ?_
    refine cw_ret ?_
    exact rs_1 (rc1 Try.underlying4 rfl rfl (cell_blk hB4 rfl)) ⟨false, rfl, h⟩
end Go.Proofs.Ytchjcjocihckpaa.G
