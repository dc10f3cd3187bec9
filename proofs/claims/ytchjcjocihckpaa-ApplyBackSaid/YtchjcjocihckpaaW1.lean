/- What is to be shown of each function, and that it is enough. -/
import Derived.Test.YtchjcjocihckpaaT
set_option linter.unusedVariables false
namespace Go.Proofs.Ytchjcjocihckpaa.G
open Go Go.RowKit
def VC_law21_VocabWhole (a0 : Sl) (a1 : ByteArray) (a2 : Int) (R : Bool → World → Prop) (w : World) : Prop :=
  ∀ (b1 : Nat) (w2 : World), Priv w b1 w2 → (∀ (b5 : Nat) (w6 : World), Priv w2 b5 w6 → (Calls PP n_law21_awake #[] w6 (fun e w11 => ∃ r14 : Bool, e = .returned (.bool r14) ∧ w11.heap[b1]? = w6.heap[b1]? ∧ w11.heap[b5]? = w6.heap[b5]? ∧ ((r14 = true → (Calls PP n_ref18_Great #[a0.v, .int .i64 60] w11 (fun e w19 => ∃ r22 : Bool, e = .returned (.bool r22) ∧ w19.heap[b1]? = w11.heap[b1]? ∧ w19.heap[b5]? = w11.heap[b5]? ∧ ((r22 = true → (∀ w26 : World, Chg (fun b => b = b5) w19 w26 → (R true w26))) ∧ (r22 = false → (((300 : Int) < ((a1.size : Nat) : Int) → (∀ w29 : World, Chg (fun b => b = b5) w19 w29 → (R true w29))) ∧ (¬ ((300 : Int) < ((a1.size : Nat) : Int)) → (Calls PP n_vocab_Vocab_Has #[.pointer none, .string a1] w19 (fun e w32 => ∃ r35 : Bool, e = .returned (.bool r35) ∧ w32.heap[b1]? = w19.heap[b1]? ∧ w32.heap[b5]? = w19.heap[b5]? ∧ ((r35 = true → (∀ w39 : World, Chg (fun b => b = b5) w32 w39 → (R false w39))) ∧ (r35 = false → (Calls PP n_vocab_Vocab_Depth #[.pointer none, .string a1] w32 (fun e w42 => ∃ r45 : Int, e = .returned (.int .i64 r45) ∧ w42.heap[b1]? = w32.heap[b1]? ∧ w42.heap[b5]? = w32.heap[b5]? ∧ ((r45 ≠ ((-1) : Int) → (∀ w49 : World, Chg (fun b => b = b5) w42 w49 → (R false w49))) ∧ (¬ (r45 ≠ ((-1) : Int)) → (Calls PP n_vocab_Vocab_Longest #[.pointer none, .string a1] w42 (fun e w52 => ∃ r55 : Sl, e = .returned (r55.v) ∧ w52.heap[b1]? = w42.heap[b1]? ∧ w52.heap[b5]? = w42.heap[b5]? ∧ ((((r55.n : Nat) : Int) ≠ (0 : Int) → (∀ w59 : World, Chg (fun b => b = b5) w52 w59 → (R false w59))) ∧ (¬ (((r55.n : Nat) : Int) ≠ (0 : Int)) → (Calls PP n_vocab_Vocab_Uses #[.pointer none, .string a1] w52 (fun e w62 => ∃ r65 : Int, e = .returned (.int .i64 r65) ∧ w62.heap[b1]? = w52.heap[b1]? ∧ w62.heap[b5]? = w52.heap[b5]? ∧ ((r65 ≠ (0 : Int) → (∀ w69 : World, Chg (fun b => b = b5) w62 w69 → (R false w69))) ∧ (¬ (r65 ≠ (0 : Int)) → (Calls PP n_vocab_Vocab_Texts #[.pointer none] w62 (fun e w72 => ∃ r75 : Value, e = .returned (r75) ∧ w72.heap[b1]? = w62.heap[b1]? ∧ w72.heap[b5]? = w62.heap[b5]? ∧ (∃ (fn78 : Fn) (fa79 fb80 : Array Value), r75 = .func fn78 fa79 fb80 ∧ (Calls PP n_vocab_Vocab_Len #[.pointer none] w72 (fun e w82 => ∃ r85 : Int, e = .returned (.int .i64 r85) ∧ w82.heap[b1]? = w72.heap[b1]? ∧ w82.heap[b5]? = w72.heap[b5]? ∧ ((r85 ≠ (0 : Int) → (∀ w89 : World, Chg (fun b => b = b5) w82 w89 → (R false w89))) ∧ (¬ (r85 ≠ (0 : Int)) → (Calls PP n_vocab_Vocab_Texts #[.pointer none] w82 (fun e w92 => ∃ r95 : Value, e = .returned (r95) ∧ w92.heap[b1]? = w82.heap[b1]? ∧ w92.heap[b5]? = w82.heap[b5]? ∧ (∃ (Fp100 : Nat → Prop) (S101 Sp102 : List ByteArray → Prop) (N103 : Nat), SeqC PP r95 (fun x => #[(fun (x : ByteArray) => .string x) x]) Fp100 S101 Sp102 N103 w92 ∧ ∃ (I105 X112 : List ByteArray → Bool → World → Prop), (∀ (l99 : Bool), OwnFrom w92.heap.size fun pre w => I105 pre l99 w) ∧ (∀ (l99 : Bool), OwnFrom w92.heap.size fun pre w => X112 pre l99 w) ∧ I105 [] false w92 ∧ (∀ (pre117 : List ByteArray) (x98 : ByteArray) (l99 : Bool) (w110 : World), I105 pre117 l99 w110 → pre117.length < N103 → (∀ w120 : World, Chg (fun b => b = b5) w110 w120 → (KO [b1, b5] w110 w120 ∧ X112 (pre117 ++ [x98]) false w120))) ∧ (∀ (xs : List ByteArray) (l99 : Bool) (w110 : World) (D111 : Nat), w92.heap.size ≤ D111 → D111 < w110.heap.size → S101 xs → I105 xs l99 w110 → (Calls PP n_vocab_New #[a0.v] w110 (fun e w124 => ∃ r127_0 : Option Addr, ∃ r127_1 : Int, e = .returned (.tuple #[.pointer r127_0, .int .i64 r127_1]) ∧ w124.heap[b1]? = w110.heap[b1]? ∧ w124.heap[b5]? = w110.heap[b5]? ∧ w124.heap[D111]? = w110.heap[D111]? ∧ (∃ K132 : Bool → World → Prop, (∀ (j131 : Bool) (w134 : World), K132 j131 w134 → ((j131 = true → (∀ w142 : World, Chg (fun b => b = b5) w134 w142 → (∀ w144 : World, Chg (fun b => b = D111) w142 w144 → (R (decide (r127_1 ≠ (0 : Int))) w144)))) ∧ (j131 = false → (Calls PP n_vocab_Vocab_Longest #[.pointer r127_0, .string a1] w134 (fun e w147 => ∃ r150 : Sl, e = .returned (r150.v) ∧ w147.heap[b1]? = w134.heap[b1]? ∧ w147.heap[b5]? = w134.heap[b5]? ∧ w147.heap[D111]? = w134.heap[D111]? ∧ (∃ K156 : ByteArray → Bool → World → Prop, (∀ (j154 : ByteArray) (j155 : Bool) (w158 : World), K156 j154 j155 w158 → (∀ (b222 : Nat) (w223 : World), Priv w158 b222 w223 → (∀ w229 : World, Chg (fun b => b = b222) w223 w229 → (Calls PP n_vocab_Vocab_Texts #[.pointer r127_0] w229 (fun e w232 => ∃ r235 : Value, e = .returned (r235) ∧ w232.heap[b1]? = w229.heap[b1]? ∧ w232.heap[b5]? = w229.heap[b5]? ∧ w232.heap[D111]? = w229.heap[D111]? ∧ w232.heap[b222]? = w229.heap[b222]? ∧ (∃ (fn240 : Fn) (fa241 fb242 : Array Value), r235 = .func fn240 fa241 fb242 ∧ (∃ K244 : Int → Nat → World → Prop, (∀ (j243 : Int) (D249 : Nat) (w246 : World), K244 j243 D249 w246 → ((j154 = a1 → (∃ z291 : Int, z291 = IntKind.wrap .i64 a2 ∧ (∃ z292 : Int, z292 = IntKind.wrap .i64 (z291 + 1) ∧ (∀ w293 : World, Ext w246 w293 → (Calls PP n_vocab_Vocab_Len #[.pointer r127_0] w293 (fun e w297 => ∃ r300 : Int, e = .returned (.int .i64 r300) ∧ w297.heap[b1]? = w293.heap[b1]? ∧ w297.heap[b5]? = w293.heap[b5]? ∧ w297.heap[D111]? = w293.heap[D111]? ∧ w297.heap[b222]? = w293.heap[b222]? ∧ w297.heap[D249]? = w293.heap[D249]? ∧ (∀ w306 : World, Chg (fun b => b = b5) w297 w306 → (∀ w308 : World, Chg (fun b => b = D249) w306 w308 → (∀ w310 : World, Chg (fun b => b = D111) w308 w310 → (R (decide (j243 = (min r300 z292 : Int))) w310)))))))))) ∧ (¬ (j154 = a1) → (∀ w314 : World, Chg (fun b => b = b5) w246 w314 → (∀ w316 : World, Chg (fun b => b = D249) w314 w316 → (∀ w318 : World, Chg (fun b => b = D111) w316 w318 → (R false w318))))))) ∧ (∃ (Fp252 : Nat → Prop) (S253 Sp254 : List ByteArray → Prop) (N255 : Nat), SeqC PP (.func fn240 fa241 fb242) (fun x => #[(fun (x : ByteArray) => .string x) x]) Fp252 S253 Sp254 N255 w232 ∧ ∃ (I257 X264 : List ByteArray → Int → World → Prop), (∀ (l251 : Int), OwnFrom w232.heap.size fun pre w => I257 pre l251 w) ∧ (∀ (l251 : Int), OwnFrom w232.heap.size fun pre w => X264 pre l251 w) ∧ I257 [] 0 w232 ∧ (∀ (pre271 : List ByteArray) (x250 : ByteArray) (l251 : Int) (w262 : World), I257 pre271 l251 w262 → pre271.length < N255 → (∃ z274 : Int, z274 = IntKind.wrap .i64 (l251 + 1) ∧ (∀ w275 : World, Chg (fun b => b = b222) w262 w275 → (∃ z277 : Int, z277 = IntKind.wrap .i64 a2 ∧ ((z277 < z274 → (KO [b1, b5, b222] w262 w275 ∧ X264 (pre271 ++ [x250]) z274 w275)) ∧ (¬ (z277 < z274) → (KO [b1, b5, b222] w262 w275 ∧ KF Fp252 w262 w275 ∧ I257 (pre271 ++ [x250]) z274 w275))))))) ∧ (∀ (xs : List ByteArray) (l251 : Int) (w262 : World) (D263 : Nat), w232.heap.size ≤ D263 → D263 < w262.heap.size → S253 xs → I257 xs l251 w262 → (K244 l251 D263 w262)) ∧ (∀ (pre : List ByteArray) (l251 : Int) (w262 : World) (D263 : Nat), w232.heap.size ≤ D263 → D263 < w262.heap.size → Sp254 pre → X264 pre l251 w262 → (K244 l251 D263 w262)))))))))) ∧ (∃ (I164 : ByteArray → Int → Bool → World → Prop) (μ165 : ByteArray → Int → Bool → World → Nat), I164 (⟨#[]⟩ : ByteArray) 0 l99 w147 ∧ ∀ (l161 : ByteArray) (l162 : Int) (l163 : Bool) (w167 : World), I164 l161 l162 l163 w167 → ((l162 < ((r150.n : Nat) : Int) → ((l162 ≤ (300 : Int) → (∃ k175 : Nat, l162 = ((k175 : Nat) : Int) ∧ k175 < r150.n ∧ (∃ (b177 o178 : Nat), r150.b = some ⟨b177, o178, none⟩ ∧ (∃ v180 : ByteArray, w167.cell? ⟨b177, o178 + k175 * 1, none⟩ = some (.string v180) ∧ (Calls PP n_vocab_Vocab_Has #[.pointer r127_0, .string v180] w167 (fun e w183 => ∃ r186 : Bool, e = .returned (.bool r186) ∧ w183.heap[b1]? = w167.heap[b1]? ∧ w183.heap[b5]? = w167.heap[b5]? ∧ w183.heap[D111]? = w167.heap[D111]? ∧ ((r186 = true → (∃ v191 : ByteArray, w183.cell? ⟨b177, o178 + k175 * 1, none⟩ = some (.string v191) ∧ (Calls PP n_vocab_Vocab_Depth #[.pointer r127_0, .string v191] w183 (fun e w194 => ∃ r197 : Int, e = .returned (.int .i64 r197) ∧ w194.heap[b1]? = w183.heap[b1]? ∧ w194.heap[b5]? = w183.heap[b5]? ∧ w194.heap[D111]? = w183.heap[D111]? ∧ ((r197 < (0 : Int) → (∀ w202 : World, Chg (fun b => b = b5) w194 w202 → (∀ w204 : World, Chg (fun b => b = D111) w202 w204 → (R false w204)))) ∧ (¬ (r197 < (0 : Int)) → (∃ v206 : ByteArray, w194.cell? ⟨b177, o178 + k175 * 1, none⟩ = some (.string v206) ∧ ((v206 = (⟨#[]⟩ : ByteArray) → (∀ w209 : World, Chg (fun b => b = b5) w194 w209 → (∀ w211 : World, Chg (fun b => b = D111) w209 w211 → (R false w211)))) ∧ (¬ (v206 = (⟨#[]⟩ : ByteArray)) → (l161.size + v206.size ≤ 9223372036854775807 ∧ (∃ z214 : Int, z214 = IntKind.wrap .i64 (((k175 : Nat) : Int) + 1) ∧ (I164 (l161 ++ v206) z214 l163 w194 ∧ μ165 (l161 ++ v206) z214 l163 w194 < μ165 l161 l162 l163 w167)))))))))))) ∧ (r186 = false → (∀ w215 : World, Chg (fun b => b = b5) w183 w215 → (∀ w217 : World, Chg (fun b => b = D111) w215 w217 → (R false w217))))))))))) ∧ (¬ (l162 ≤ (300 : Int)) → (K156 l161 l163 w167)))) ∧ (¬ (l162 < ((r150.n : Nat) : Int)) → (K156 l161 l163 w167)))))))))) ∧ ((r127_1 ≠ (0 : Int) → (K132 true w124)) ∧ (¬ (r127_1 ≠ (0 : Int)) → (K132 (decide (r127_0 = none)) w124))))))) ∧ (∀ (pre : List ByteArray) (l99 : Bool) (w110 : World) (D111 : Nat), w92.heap.size ≤ D111 → D111 < w110.heap.size → Sp102 pre → X112 pre l99 w110 → (∀ w321 : World, Chg (fun b => b = D111) w110 w321 → (R l99 w321)))))))))))))))))))))))))))))))))))) ∧ (r14 = false → (∀ w323 : World, Chg (fun b => b = b5) w11 w323 → (R false w323)))))))
set_option maxRecDepth 100000 in
theorem vc_law21_VocabWhole {a0 : Sl} {a1 : ByteArray} {a2 : Int} {R : Bool → World → Prop} {w : World} (h : VC_law21_VocabWhole a0 a1 a2 R w) : Calls PP n_law21_VocabWhole #[a0.v, .string a1, .int .u8 a2] w fun e w' => ∃ r0 : Bool, e = .returned (.bool r0) ∧ R r0 w' := by
  refine Calls.mono (calls_of_cw (n := 139) (rs := #[.cell 6 4]) (args := [a0.v, .string a1, .int .u8 a2]) (R := fun v w' => ∃ r0 : Bool, v = .bool r0 ∧ R r0 w') Try.func4 rfl rfl (Nat.le_of_ble_eq_true rfl) rfl ?_) ?_
  case refine_2 => rintro e w' ⟨v, rfl, hr⟩; obtain ⟨r0, rfl, hr⟩ := hr; exact ⟨r0, rfl, hr⟩
  have hx : Ext w w := Chg.refl _
  unfold VC_law21_VocabWhole at h
  refine cw_seq ?_
  refine cw_region ?_
  refine sl_op rfl (bx_uint8 rfl rfl (fun b1 w2 hN3 => ?_))
  have hB4 := hN3.here
  replace h := h b1 w2 ⟨hx.tr hN3.ext, Nat.le_trans hx.size hN3.fresh, lt_of_blk hN3.here⟩
  replace hx : Ext w2 w2 := Chg.refl _
  refine sl_op rfl (al_bool rfl (fun b5 w6 hN7 => ?_))
  have hne8 : b1 ≠ b5 := Nat.ne_of_lt (Nat.lt_of_lt_of_le (lt_of_blk hB4) hN7.fresh)
  replace hB4 := hN7.ext.get hB4
  have hB9 := hN7.here
  replace h := h b5 w6 ⟨hx.tr hN7.ext, Nat.le_trans hx.size hN7.fresh, lt_of_blk hN7.here⟩
  replace hx : Ext w6 w6 := Chg.refl _
  refine sl_nil ?_
  refine cw_seq ?_
  refine cw_seq ?_
  refine cw_region ?_
  refine sl_op rfl (ok_call c_law21_awake rfl (Calls.mono h (fun e10 w11 hq12 => ?_)))
  clear h
  obtain ⟨r14, he13, hk15, hk16, h⟩ := hq12
  refine ⟨_, he13, ?_⟩
  replace hB4 := hk15.trans hB4
  replace hB9 := hk16.trans hB9
  replace hx : Ext w11 w11 := Chg.refl _
  refine sl_v rfl (r_not rfl) ?_
  refine sl_nil ?_
  refine bcases (r14) (fun hb17 => ?_) (fun hb17 => ?_)
  · replace h := h.1 hb17
    refine cw_cf rfl (nt hb17) ?_
    refine cw_skip ?_
    refine cw_seq ?_
    refine cw_seq ?_
    refine cw_region ?_
    refine sl_v rfl (r_mv rfl) ?_
    refine sl_op rfl (ok_call c_ref18_Great rfl (Calls.mono h (fun e18 w19 hq20 => ?_)))
    clear h
    obtain ⟨r22, he21, hk23, hk24, h⟩ := hq20
    refine ⟨_, he21, ?_⟩
    replace hB4 := hk23.trans hB4
    replace hB9 := hk24.trans hB9
    replace hx : Ext w19 w19 := Chg.refl _
    refine sl_v rfl (r_mv rfl) ?_
    refine bcases (r22) (fun hb25 => ?_) (fun hb25 => ?_)
    · replace h := h.1 hb25
      refine sl_no rfl rfl rfl hb25 ?_
      refine sl_no rfl rfl rfl hb25 ?_
      refine sl_no rfl rfl rfl hb25 ?_
      refine sl_v rfl (r_pt rfl hb25 rfl) ?_
      refine sl_nil ?_
      refine cw_ct rfl rfl ?_
      refine cw_seq ?_
      refine cw_region ?_
      refine sl_op rfl (st_bool (vs := [.bool true]) rfl rfl rfl rfl rfl ⟨_, _, hB9, Nat.le_of_ble_eq_true rfl⟩ (fun w26 hw27 => ?_))
      have hc_ := sto_chg hw27
      replace hB4 := hc_.get hB4 hne8
      replace hB9 : w26.heap[b5]? = some (.cells #[.bool true] t_bool (0, 0)) := sto_blk hw27 hB9
      replace h := h w26 (Chg.pre hx hc_)
      replace hx : Ext w26 w26 := Chg.refl _
      clear hc_
      refine sl_nil ?_
      refine cw_ret ?_
      exact rs_1 (rc1 Try.underlying4 rfl rfl (cell_blk hB9 rfl)) ⟨true, rfl, h⟩
    · replace h := h.2 hb25
      refine sl_vg rfl rfl rfl hb25 (r_mv rfl) ?_
      refine sl_vg rfl rfl rfl hb25 (r_len_s rfl rfl Try.underlying9) ?_
      refine sl_vg rfl rfl rfl hb25 (r_gtr rfl rfl) ?_
      refine sl_v rfl (r_pf rfl hb25 rfl) ?_
      refine sl_nil ?_
      refine bcases (decide ((300 : Int) < ((a1.size : Nat) : Int))) (fun hb28 => ?_) (fun hb28 => ?_)
      · replace h := h.1 (of_decide_eq_true hb28)
        refine cw_ct rfl hb28 ?_
        refine cw_seq ?_
        refine cw_region ?_
        refine sl_op rfl (st_bool (vs := [.bool true]) rfl rfl rfl rfl rfl ⟨_, _, hB9, Nat.le_of_ble_eq_true rfl⟩ (fun w29 hw30 => ?_))
        have hc_ := sto_chg hw30
        replace hB4 := hc_.get hB4 hne8
        replace hB9 : w29.heap[b5]? = some (.cells #[.bool true] t_bool (0, 0)) := sto_blk hw30 hB9
        replace h := h w29 (Chg.pre hx hc_)
        replace hx : Ext w29 w29 := Chg.refl _
        clear hc_
        refine sl_nil ?_
        refine cw_ret ?_
        exact rs_1 (rc1 Try.underlying4 rfl rfl (cell_blk hB9 rfl)) ⟨true, rfl, h⟩
      · replace h := h.2 (of_decide_eq_false hb28)
        refine cw_cf rfl hb28 ?_
        refine cw_skip ?_
        refine cw_seq ?_
        refine cw_region ?_
        refine sl_v rfl (r_as rfl) ?_
        refine sl_nil ?_
        refine cw_seq ?_
        refine cw_seq ?_
        refine cw_region ?_
        refine sl_v rfl (r_mv rfl) ?_
        refine sl_v rfl (r_mv rfl) ?_
        refine sl_op rfl (ok_call c_vocab_Vocab_Has rfl (Calls.mono h (fun e31 w32 hq33 => ?_)))
        clear h
        obtain ⟨r35, he34, hk36, hk37, h⟩ := hq33
        refine ⟨_, he34, ?_⟩
        replace hB4 := hk36.trans hB4
        replace hB9 := hk37.trans hB9
        replace hx : Ext w32 w32 := Chg.refl _
        refine sl_v rfl (r_mv rfl) ?_
        refine bcases (r35) (fun hb38 => ?_) (fun hb38 => ?_)
        · replace h := h.1 hb38
          refine sl_no rfl rfl rfl hb38 ?_
          refine sl_no rfl rfl rfl hb38 ?_
          refine sl_no rfl rfl rfl hb38 ?_
          refine sl_no rfl rfl rfl hb38 ?_
          refine sl_v rfl (r_pt rfl hb38 rfl) ?_
          refine sl_v rfl (r_mv rfl) ?_
          refine sl_no rfl rfl rfl rfl ?_
          refine sl_no rfl rfl rfl rfl ?_
          refine sl_no rfl rfl rfl rfl ?_
          refine sl_no rfl rfl rfl rfl ?_
          refine sl_no rfl rfl rfl rfl ?_
          refine sl_v rfl (r_pt rfl rfl rfl) ?_
          refine sl_v rfl (r_mv rfl) ?_
          refine sl_no rfl rfl rfl rfl ?_
          refine sl_no rfl rfl rfl rfl ?_
          refine sl_no rfl rfl rfl rfl ?_
          refine sl_no rfl rfl rfl rfl ?_
          refine sl_v rfl (r_pt rfl rfl rfl) ?_
          refine sl_v rfl (r_mv rfl) ?_
          refine sl_no rfl rfl rfl rfl ?_
          refine sl_no rfl rfl rfl rfl ?_
          refine sl_no rfl rfl rfl rfl ?_
          refine sl_v rfl (r_pt rfl rfl rfl) ?_
          refine sl_v rfl (r_mv rfl) ?_
          refine sl_no rfl rfl rfl rfl ?_
          refine sl_no rfl rfl rfl rfl ?_
          refine sl_no rfl rfl rfl rfl ?_
          refine sl_v rfl (r_pt rfl rfl rfl) ?_
          refine sl_nil ?_
          refine cw_ct rfl rfl ?_
          refine cw_seq ?_
          refine cw_region ?_
          refine sl_op rfl (st_bool (vs := [.bool false]) rfl rfl rfl rfl rfl ⟨_, _, hB9, Nat.le_of_ble_eq_true rfl⟩ (fun w39 hw40 => ?_))
          have hc_ := sto_chg hw40
          replace hB4 := hc_.get hB4 hne8
          replace hB9 : w39.heap[b5]? = some (.cells #[.bool false] t_bool (0, 0)) := sto_blk hw40 hB9
          replace h := h w39 (Chg.pre hx hc_)
          replace hx : Ext w39 w39 := Chg.refl _
          clear hc_
          refine sl_nil ?_
          refine cw_ret ?_
          exact rs_1 (rc1 Try.underlying4 rfl rfl (cell_blk hB9 rfl)) ⟨false, rfl, h⟩
        · replace h := h.2 hb38
          refine sl_vg rfl rfl rfl hb38 (r_mv rfl) ?_
          refine sl_vg rfl rfl rfl hb38 (r_mv rfl) ?_
          refine sl_g rfl rfl rfl hb38 (ok_call c_vocab_Vocab_Depth rfl (Calls.mono h (fun e41 w42 hq43 => ?_)))
          clear h
          obtain ⟨r45, he44, hk46, hk47, h⟩ := hq43
          refine ⟨_, he44, ?_⟩
          replace hB4 := hk46.trans hB4
          replace hB9 := hk47.trans hB9
          replace hx : Ext w42 w42 := Chg.refl _
          refine sl_vg rfl rfl rfl hb38 (r_neq rfl rfl) ?_
          refine sl_v rfl (r_pf rfl hb38 rfl) ?_
          refine sl_v rfl (r_mv rfl) ?_
          refine bcases (decide (r45 ≠ ((-1) : Int))) (fun hb48 => ?_) (fun hb48 => ?_)
          · replace h := h.1 (of_decide_eq_true hb48)
            refine sl_no rfl rfl rfl hb48 ?_
            refine sl_no rfl rfl rfl hb48 ?_
            refine sl_no rfl rfl rfl hb48 ?_
            refine sl_no rfl rfl rfl hb48 ?_
            refine sl_no rfl rfl rfl hb48 ?_
            refine sl_v rfl (r_pt rfl hb48 rfl) ?_
            refine sl_v rfl (r_mv rfl) ?_
            refine sl_no rfl rfl rfl rfl ?_
            refine sl_no rfl rfl rfl rfl ?_
            refine sl_no rfl rfl rfl rfl ?_
            refine sl_no rfl rfl rfl rfl ?_
            refine sl_v rfl (r_pt rfl rfl rfl) ?_
            refine sl_v rfl (r_mv rfl) ?_
            refine sl_no rfl rfl rfl rfl ?_
            refine sl_no rfl rfl rfl rfl ?_
            refine sl_no rfl rfl rfl rfl ?_
            refine sl_v rfl (r_pt rfl rfl rfl) ?_
            refine sl_v rfl (r_mv rfl) ?_
            refine sl_no rfl rfl rfl rfl ?_
            refine sl_no rfl rfl rfl rfl ?_
            refine sl_no rfl rfl rfl rfl ?_
            refine sl_v rfl (r_pt rfl rfl rfl) ?_
            refine sl_nil ?_
            refine cw_ct rfl rfl ?_
            refine cw_seq ?_
            refine cw_region ?_
            refine sl_op rfl (st_bool (vs := [.bool false]) rfl rfl rfl rfl rfl ⟨_, _, hB9, Nat.le_of_ble_eq_true rfl⟩ (fun w49 hw50 => ?_))
            have hc_ := sto_chg hw50
            replace hB4 := hc_.get hB4 hne8
            replace hB9 : w49.heap[b5]? = some (.cells #[.bool false] t_bool (0, 0)) := sto_blk hw50 hB9
            replace h := h w49 (Chg.pre hx hc_)
            replace hx : Ext w49 w49 := Chg.refl _
            clear hc_
            refine sl_nil ?_
            refine cw_ret ?_
            exact rs_1 (rc1 Try.underlying4 rfl rfl (cell_blk hB9 rfl)) ⟨false, rfl, h⟩
          · replace h := h.2 (of_decide_eq_false hb48)
            refine sl_vg rfl rfl rfl hb48 (r_mv rfl) ?_
            refine sl_vg rfl rfl rfl hb48 (r_mv rfl) ?_
            refine sl_g rfl rfl rfl hb48 (ok_call c_vocab_Vocab_Longest rfl (Calls.mono h (fun e51 w52 hq53 => ?_)))
            clear h
            obtain ⟨r55, he54, hk56, hk57, h⟩ := hq53
            refine ⟨_, he54, ?_⟩
            replace hB4 := hk56.trans hB4
            replace hB9 := hk57.trans hB9
            replace hx : Ext w52 w52 := Chg.refl _
            refine sl_vg rfl rfl rfl hb48 (r_len_l (s := r55) rfl rfl Try.underlying37) ?_
            refine sl_vg rfl rfl rfl hb48 (r_neq rfl rfl) ?_
            refine sl_v rfl (r_pf rfl hb48 rfl) ?_
            refine sl_v rfl (r_mv rfl) ?_
            refine bcases (decide (((r55.n : Nat) : Int) ≠ (0 : Int))) (fun hb58 => ?_) (fun hb58 => ?_)
            · replace h := h.1 (of_decide_eq_true hb58)
              refine sl_no rfl rfl rfl hb58 ?_
              refine sl_no rfl rfl rfl hb58 ?_
              refine sl_no rfl rfl rfl hb58 ?_
              refine sl_no rfl rfl rfl hb58 ?_
              refine sl_v rfl (r_pt rfl hb58 rfl) ?_
              refine sl_v rfl (r_mv rfl) ?_
              refine sl_no rfl rfl rfl rfl ?_
              refine sl_no rfl rfl rfl rfl ?_
              refine sl_no rfl rfl rfl rfl ?_
              refine sl_v rfl (r_pt rfl rfl rfl) ?_
              refine sl_v rfl (r_mv rfl) ?_
              refine sl_no rfl rfl rfl rfl ?_
              refine sl_no rfl rfl rfl rfl ?_
              refine sl_no rfl rfl rfl rfl ?_
              refine sl_v rfl (r_pt rfl rfl rfl) ?_
              refine sl_nil ?_
              refine cw_ct rfl rfl ?_
              refine cw_seq ?_
              refine cw_region ?_
              refine sl_op rfl (st_bool (vs := [.bool false]) rfl rfl rfl rfl rfl ⟨_, _, hB9, Nat.le_of_ble_eq_true rfl⟩ (fun w59 hw60 => ?_))
              have hc_ := sto_chg hw60
              replace hB4 := hc_.get hB4 hne8
              replace hB9 : w59.heap[b5]? = some (.cells #[.bool false] t_bool (0, 0)) := sto_blk hw60 hB9
              replace h := h w59 (Chg.pre hx hc_)
              replace hx : Ext w59 w59 := Chg.refl _
              clear hc_
              refine sl_nil ?_
              refine cw_ret ?_
              exact rs_1 (rc1 Try.underlying4 rfl rfl (cell_blk hB9 rfl)) ⟨false, rfl, h⟩
            · replace h := h.2 (of_decide_eq_false hb58)
              refine sl_vg rfl rfl rfl hb58 (r_mv rfl) ?_
              refine sl_vg rfl rfl rfl hb58 (r_mv rfl) ?_
              refine sl_g rfl rfl rfl hb58 (ok_call c_vocab_Vocab_Uses rfl (Calls.mono h (fun e61 w62 hq63 => ?_)))
              clear h
              obtain ⟨r65, he64, hk66, hk67, h⟩ := hq63
              refine ⟨_, he64, ?_⟩
              replace hB4 := hk66.trans hB4
              replace hB9 := hk67.trans hB9
              replace hx : Ext w62 w62 := Chg.refl _
              refine sl_vg rfl rfl rfl hb58 (r_neq rfl rfl) ?_
              refine sl_v rfl (r_pf rfl hb58 rfl) ?_
              refine sl_v rfl (r_mv rfl) ?_
              refine bcases (decide (r65 ≠ (0 : Int))) (fun hb68 => ?_) (fun hb68 => ?_)
              · replace h := h.1 (of_decide_eq_true hb68)
                refine sl_no rfl rfl rfl hb68 ?_
                refine sl_no rfl rfl rfl hb68 ?_
                refine sl_no rfl rfl rfl hb68 ?_
                refine sl_v rfl (r_pt rfl hb68 rfl) ?_
                refine sl_v rfl (r_mv rfl) ?_
                refine sl_no rfl rfl rfl rfl ?_
                refine sl_no rfl rfl rfl rfl ?_
                refine sl_no rfl rfl rfl rfl ?_
                refine sl_v rfl (r_pt rfl rfl rfl) ?_
                refine sl_nil ?_
                refine cw_ct rfl rfl ?_
                refine cw_seq ?_
                refine cw_region ?_
                refine sl_op rfl (st_bool (vs := [.bool false]) rfl rfl rfl rfl rfl ⟨_, _, hB9, Nat.le_of_ble_eq_true rfl⟩ (fun w69 hw70 => ?_))
                have hc_ := sto_chg hw70
                replace hB4 := hc_.get hB4 hne8
                replace hB9 : w69.heap[b5]? = some (.cells #[.bool false] t_bool (0, 0)) := sto_blk hw70 hB9
                replace h := h w69 (Chg.pre hx hc_)
                replace hx : Ext w69 w69 := Chg.refl _
                clear hc_
                refine sl_nil ?_
                refine cw_ret ?_
                exact rs_1 (rc1 Try.underlying4 rfl rfl (cell_blk hB9 rfl)) ⟨false, rfl, h⟩
              · replace h := h.2 (of_decide_eq_false hb68)
                refine sl_vg rfl rfl rfl hb68 (r_mv rfl) ?_
                refine sl_g rfl rfl rfl hb68 (ok_call c_vocab_Vocab_Texts rfl (Calls.mono h (fun e71 w72 hq73 => ?_)))
                clear h
                obtain ⟨r75, he74, hk76, hk77, h⟩ := hq73
                refine ⟨_, he74, ?_⟩
                replace hB4 := hk76.trans hB4
                replace hB9 := hk77.trans hB9
                replace hx : Ext w72 w72 := Chg.refl _
                obtain ⟨fn78, fa79, fb80, rfl, h⟩ := h
                refine sl_vg rfl rfl rfl hb68 (f_eqn Try.underlying42 rfl rfl rfl) ?_
                refine sl_v rfl (r_pf rfl hb68 rfl) ?_
                refine sl_v rfl (r_mv rfl) ?_
                refine sl_vg rfl rfl rfl rfl (r_mv rfl) ?_
                refine sl_g rfl rfl rfl rfl (ok_call c_vocab_Vocab_Len rfl (Calls.mono h (fun e81 w82 hq83 => ?_)))
                clear h
                obtain ⟨r85, he84, hk86, hk87, h⟩ := hq83
                refine ⟨_, he84, ?_⟩
                replace hB4 := hk86.trans hB4
                replace hB9 := hk87.trans hB9
                replace hx : Ext w82 w82 := Chg.refl _
                refine sl_vg rfl rfl rfl rfl (r_neq rfl rfl) ?_
                refine sl_v rfl (r_pf rfl rfl rfl) ?_
                refine sl_nil ?_
                refine bcases (decide (r85 ≠ (0 : Int))) (fun hb88 => ?_) (fun hb88 => ?_)
                · replace h := h.1 (of_decide_eq_true hb88)
                  refine cw_ct rfl hb88 ?_
                  refine cw_seq ?_
                  refine cw_region ?_
                  refine sl_op rfl (st_bool (vs := [.bool false]) rfl rfl rfl rfl rfl ⟨_, _, hB9, Nat.le_of_ble_eq_true rfl⟩ (fun w89 hw90 => ?_))
                  have hc_ := sto_chg hw90
                  replace hB4 := hc_.get hB4 hne8
                  replace hB9 : w89.heap[b5]? = some (.cells #[.bool false] t_bool (0, 0)) := sto_blk hw90 hB9
                  replace h := h w89 (Chg.pre hx hc_)
                  replace hx : Ext w89 w89 := Chg.refl _
                  clear hc_
                  refine sl_nil ?_
                  refine cw_ret ?_
                  exact rs_1 (rc1 Try.underlying4 rfl rfl (cell_blk hB9 rfl)) ⟨false, rfl, h⟩
                · replace h := h.2 (of_decide_eq_false hb88)
                  refine cw_cf rfl hb88 ?_
                  refine cw_skip ?_
                  refine cw_seq ?_
                  refine cw_seq ?_
                  refine cw_region ?_
                  refine sl_v rfl (r_mv rfl) ?_
                  refine sl_op rfl (ok_call c_vocab_Vocab_Texts rfl (Calls.mono h (fun e91 w92 hq93 => ?_)))
                  clear h
                  obtain ⟨r95, he94, hk96, hk97, h⟩ := hq93
                  refine ⟨_, he94, ?_⟩
                  replace hB4 := hk96.trans hB4
                  replace hB9 := hk97.trans hB9
                  replace hx : Ext w92 w92 := Chg.refl _
                  refine sl_nil ?_
                  refine cw_block ?_
                  obtain ⟨Fp100, S101, Sp102, N103, hs104, I105, X112, hI106, hX113, h0107, hB108, hD109, h⟩ := h
                  refine cw_rf (α := ByteArray) rfl hs104 (fun _ => rfl) asg_skip (fun pre w => ∃ (l99 : Bool), w.heap[b1]? = some (.cells #[.int .u8 a2] t_uint8 (0, 0)) ∧ w.heap[b5]? = some (.cells #[.bool l99] t_bool (0, 0)) ∧ I105 pre l99 w) (fun c pre w => (c = .ret ∧ ∃ (l99 : Bool), w.heap[b1]? = some (.cells #[.int .u8 a2] t_uint8 (0, 0)) ∧ w.heap[b5]? = some (.cells #[.bool l99] t_bool (0, 0)) ∧ X112 pre l99 w)) ?_ ?_ ⟨false, hB4, hB9, h0107⟩ ?_ ?_ ?_ ?_ ?_
                  · rintro pre_ w_ w2_ row_ ⟨l99, hB115, hB116, hi_⟩ hg_ hr_
                    exact ⟨l99, own_cells hB115 hg_ hr_, own_cells hB116 hg_ hr_, hI106 l99 _ _ _ _ hi_ hg_ hr_⟩
                  · intro c_ pre_ w_ w2_ row_ hx_ hg_ hr_
                    rcases hx_ with ⟨e_, l99, hB115, hB116, hi_⟩
                    · exact ⟨e_, ⟨l99, own_cells hB115 hg_ hr_, own_cells hB116 hg_ hr_, hX113 l99 _ _ _ _ hi_ hg_ hr_⟩⟩
                  · rintro l118 pre117 x98 w110 ⟨l99, hB115, hB116, hi_⟩ hl119
                    replace h := hB108 pre117 x98 l99 w110 hi_ hl119
                    have hx : Ext w110 w110 := Chg.refl _
                    have hc0_b1 := hB115
                    have hc0_b5 := hB116
                    refine cw_block ?_
                    refine cw_seq ?_
                    refine cw_region ?_
                    refine sl_op rfl (st_bool (vs := [.bool false]) rfl rfl rfl rfl rfl ⟨_, _, hB116, Nat.le_of_ble_eq_true rfl⟩ (fun w120 hw121 => ?_))
                    have hc_ := sto_chg hw121
                    replace hB115 := hc_.get hB115 hne8
                    replace hB116 : w120.heap[b5]? = some (.cells #[.bool false] t_bool (0, 0)) := sto_blk hw121 hB116
                    replace h := h w120 (Chg.pre hx hc_)
                    replace hx : Ext w120 w120 := Chg.refl _
                    clear hc_
                    refine sl_nil ?_
                    refine cw_ret ?_
                    exact ⟨h.1.keeps (cells_cons hc0_b1 (cells_cons hc0_b5 cells_nil)), ⟨rfl, ⟨false, hB115, hB116, h.2⟩⟩⟩
                  · rintro D111 xs_ w110 hD_ hS_ ⟨l99, hB115, hB116, hi_⟩ hk_
                    replace h := hD109 xs_ l99 w110 D111 hD_ (lt_of_blk hk_) hS_ hi_
                    have hx : Ext w110 w110 := Chg.refl _
                    have hne_b1_D111 : b1 ≠ D111 := Nat.ne_of_lt (Nat.lt_of_lt_of_le (lt_of_blk hB4) hD_)
                    have hne_b5_D111 : b5 ≠ D111 := Nat.ne_of_lt (Nat.lt_of_lt_of_le (lt_of_blk hB9) hD_)
                    refine cw_seq ?_
                    refine cw_region ?_
                    refine sl_v rfl (r_mv rfl) ?_
                    refine sl_op rfl (ok_call c_vocab_New rfl (Calls.mono h (fun e123 w124 hq125 => ?_)))
                    clear h
                    obtain ⟨r127_0, r127_1, he126, hk128, hk129, hk130, h⟩ := hq125
                    refine ⟨_, he126, ?_⟩
                    replace hB115 := hk128.trans hB115
                    replace hB116 := hk129.trans hB116
                    replace hk_ := hk130.trans hk_
                    replace hx : Ext w124 w124 := Chg.refl _
                    refine sl_v rfl (r_mv rfl) ?_
                    refine sl_v rfl (r_ex rfl rfl) ?_
                    refine sl_v rfl (r_ex rfl rfl) ?_
                    refine sl_v rfl (r_as rfl) ?_
                    refine sl_v rfl (r_as rfl) ?_
                    refine sl_nil ?_
                    refine cw_seq ?_
                    obtain ⟨K132, hK133, h⟩ := h
                    refine cw_mid (fun f w => ∃ (g : Env) (j131 : Bool), f = (upd (upd (upd (upd (upd (upd (nm g [D111]) 1 (.string a1)) 5 (.pointer (some ⟨b1, 0, none⟩))) 6 (.pointer (some ⟨b5, 0, none⟩))) 8 (.pointer r127_0)) 9 (.int .i64 r127_1)) 69 (.bool j131)) ∧ w.heap[b1]? = some (.cells #[.int .u8 a2] t_uint8 (0, 0)) ∧ w.heap[b5]? = some (.cells #[.bool l99] t_bool (0, 0)) ∧ w.heap[D111]? = some (.deferred (some [])) ∧ K132 j131 w) ?_ (fun _ w134 hM136 => ?_)
                    ·
                      refine cw_region ?_
                      refine sl_v rfl (r_mv rfl) ?_
                      refine sl_v rfl (r_neq rfl rfl) ?_
                      refine sl_v rfl (r_mv rfl) ?_
                      refine bcases (decide (r127_1 ≠ (0 : Int))) (fun hb137 => ?_) (fun hb137 => ?_)
                      · replace h := h.1 (of_decide_eq_true hb137)
                        refine sl_no rfl rfl rfl hb137 ?_
                        refine sl_no rfl rfl rfl hb137 ?_
                        refine sl_v rfl (r_pt rfl hb137 rfl) ?_
                        refine sl_nil ?_
                        exact ⟨_, true, (kp (kp (kp (kp (kp (kp (kn rfl) rfl) rfl) rfl) rfl) rfl) rfl), hB115, hB116, hk_, h⟩
                      · replace h := h.2 (of_decide_eq_false hb137)
                        refine sl_vg rfl rfl rfl hb137 (r_mv rfl) ?_
                        refine sl_vg rfl rfl rfl hb137 (p_eqn rfl rfl Try.underlying25) ?_
                        refine sl_v rfl (r_pf rfl hb137 rfl) ?_
                        refine sl_nil ?_
                        exact ⟨_, decide (r127_0 = none), (kp (kp (kp (kp (kp (kp (kn rfl) rfl) rfl) rfl) rfl) rfl) rfl), hB115, hB116, hk_, h⟩
                    ·
                      obtain ⟨g135, j131, rfl, hB138, hB139, hB140, hM136⟩ := hM136
                      replace h := hK133 j131 w134 hM136
                      have hx : Ext w134 w134 := Chg.refl _
                      refine bcases (j131) (fun hb141 => ?_) (fun hb141 => ?_)
                      · replace h := h.1 hb141
                        refine cw_ct rfl hb141 ?_
                        refine cw_seq ?_
                        refine cw_region ?_
                        refine sl_v rfl (r_mv rfl) ?_
                        refine sl_v rfl (r_neq rfl rfl) ?_
                        refine sl_op rfl (st_bool (vs := [.bool (decide (r127_1 ≠ (0 : Int)))]) rfl rfl rfl rfl rfl ⟨_, _, hB139, Nat.le_of_ble_eq_true rfl⟩ (fun w142 hw143 => ?_))
                        have hc_ := sto_chg hw143
                        replace hB138 := hc_.get hB138 hne8
                        replace hB140 := hc_.get hB140 hne_b5_D111.symm
                        replace hB139 : w142.heap[b5]? = some (.cells #[.bool (decide (r127_1 ≠ (0 : Int)))] t_bool (0, 0)) := sto_blk hw143 hB139
                        replace h := h w142 (Chg.pre hx hc_)
                        replace hx : Ext w142 w142 := Chg.refl _
                        clear hc_
                        refine sl_nil ?_
                        refine cw_ret ?_
                        refine rs_mk rfl hB140 (fun w144 hc145 => ?_)
                        replace h := h w144 hc145
                        replace hB138 := hc145.get hB138 hne_b1_D111
                        replace hB139 := hc145.get hB139 hne_b5_D111
                        replace hx : Ext w144 w144 := Chg.refl _
                        exact rs_1 (rc1 Try.underlying4 rfl rfl (cell_blk hB139 rfl)) ⟨decide (r127_1 ≠ (0 : Int)), rfl, h⟩
                      · replace h := h.2 hb141
                        refine cw_cf rfl hb141 ?_
                        refine cw_skip ?_
                        refine cw_seq ?_
                        refine cw_region ?_
                        refine sl_v rfl (r_as rfl) ?_
                        refine sl_nil ?_
                        refine cw_seq ?_
                        refine cw_region ?_
                        refine sl_v rfl (r_mv rfl) ?_
                        refine sl_v rfl (r_mv rfl) ?_
                        refine sl_op rfl (ok_call c_vocab_Vocab_Longest rfl (Calls.mono h (fun e146 w147 hq148 => ?_)))
                        clear h
                        obtain ⟨r150, he149, hk151, hk152, hk153, h⟩ := hq148
                        refine ⟨_, he149, ?_⟩
                        replace hB138 := hk151.trans hB138
                        replace hB139 := hk152.trans hB139
                        replace hB140 := hk153.trans hB140
                        replace hx : Ext w147 w147 := Chg.refl _
                        refine sl_v rfl (r_as rfl) ?_
                        refine sl_nil ?_
                        obtain ⟨K156, hK157, h⟩ := h
                        refine cw_mid (fun f w => ∃ (g : Env) (j154 : ByteArray) (j155 : Bool), f = (upd (upd (upd (upd (upd (nm g [D111]) 1 (.string a1)) 5 (.pointer (some ⟨b1, 0, none⟩))) 6 (.pointer (some ⟨b5, 0, none⟩))) 8 (.pointer r127_0)) 10 (.string j154)) ∧ w.heap[b1]? = some (.cells #[.int .u8 a2] t_uint8 (0, 0)) ∧ w.heap[b5]? = some (.cells #[.bool j155] t_bool (0, 0)) ∧ w.heap[D111]? = some (.deferred (some [])) ∧ K156 j154 j155 w) ?_ (fun _ w158 hM160 => ?_)
                        ·
                          refine cw_seq ?_
                          refine cw_region ?_
                          refine sl_v rfl (r_as rfl) ?_
                          refine sl_nil ?_
                          refine cw_block ?_
                          obtain ⟨I164, μ165, hI166, h⟩ := h
                          refine cw_loop (σ := ByteArray × Int × Bool) (fun s g => (upd (upd (upd (upd (upd (upd (upd (nm g [D111]) 1 (.string a1)) 5 (.pointer (some ⟨b1, 0, none⟩))) 6 (.pointer (some ⟨b5, 0, none⟩))) 8 (.pointer r127_0)) 10 (.string s.1)) 11 (r150.v)) 12 (.int .i64 s.2.1))) (fun s w => w.heap[b1]? = some (.cells #[.int .u8 a2] t_uint8 (0, 0)) ∧ w.heap[b5]? = some (.cells #[.bool s.2.2] t_bool (0, 0)) ∧ w.heap[D111]? = some (.deferred (some [])) ∧ I164 s.1 s.2.1 s.2.2 w) (fun s w => μ165 s.1 s.2.1 s.2.2 w) ((⟨#[]⟩ : ByteArray), 0, l99) _ (kp (kp (kp (kp (kp (kp (kp (kn rfl) rfl) rfl) rfl) rfl) rfl) rfl) rfl) ⟨hB138, hB139, hB140, hI166⟩ ?_
                          rintro ⟨l161, l162, l163⟩ g168 w167 ⟨hB170, hB171, hB172, hi169⟩
                          replace h := h l161 l162 l163 w167 hi169
                          have hx : Ext w167 w167 := Chg.refl _
                          change CW _ PP _ _ _ (upd (upd (upd (upd (upd (upd (upd (nm g168 [D111]) 1 (.string a1)) 5 (.pointer (some ⟨b1, 0, none⟩))) 6 (.pointer (some ⟨b5, 0, none⟩))) 8 (.pointer r127_0)) 10 (.string l161)) 11 (r150.v)) 12 (.int .i64 l162)) _
                          refine cw_seq ?_
                          refine cw_seq ?_
                          refine cw_region ?_
                          refine sl_v rfl (r_mv rfl) ?_
                          refine sl_v rfl (r_mv rfl) ?_
                          refine sl_v rfl (r_len_l (s := r150) rfl rfl Try.underlying37) ?_
                          refine sl_v rfl (r_lss rfl rfl) ?_
                          refine sl_v rfl (r_mv rfl) ?_
                          refine bcases (decide (l162 < ((r150.n : Nat) : Int))) (fun hb173 => ?_) (fun hb173 => ?_)
                          · replace h := h.1 (of_decide_eq_true hb173)
                            refine sl_vg rfl rfl rfl hb173 (r_mv rfl) ?_
                            refine sl_vg rfl rfl rfl hb173 (r_leq rfl rfl) ?_
                            refine sl_v rfl (r_pt rfl hb173 rfl) ?_
                            refine sl_nil ?_
                            refine bcases (decide (l162 ≤ (300 : Int))) (fun hb174 => ?_) (fun hb174 => ?_)
                            · replace h := h.1 (of_decide_eq_true hb174)
                              refine cw_ct rfl hb174 ?_
                              refine cw_skip ?_
                              refine cw_seq ?_
                              refine cw_block ?_
                              refine cw_seq ?_
                              refine cw_seq ?_
                              refine cw_region ?_
                              refine sl_v rfl (r_mv rfl) ?_
                              refine sl_v rfl (r_mv rfl) ?_
                              refine sl_v rfl (r_mv rfl) ?_
                              obtain ⟨k175, rfl, hk176, h⟩ := h
                              obtain ⟨b177, o178, hb179, h⟩ := h
                              refine sl_v rfl (ia_sl_string (s := r150) (j := k175) (o' := o178 + k175 * 1) rfl rfl hk176 hb179 rfl) ?_
                              obtain ⟨v180, hc181, h⟩ := h
                              refine sl_v rfl (ld_string rfl hc181) ?_
                              refine sl_op rfl (ok_call c_vocab_Vocab_Has rfl (Calls.mono h (fun e182 w183 hq184 => ?_)))
                              clear h
                              obtain ⟨r186, he185, hk187, hk188, hk189, h⟩ := hq184
                              refine ⟨_, he185, ?_⟩
                              replace hB170 := hk187.trans hB170
                              replace hB171 := hk188.trans hB171
                              replace hB172 := hk189.trans hB172
                              replace hx : Ext w183 w183 := Chg.refl _
                              refine sl_v rfl (r_not rfl) ?_
                              refine sl_v rfl (r_mv rfl) ?_
                              refine bcases (r186) (fun hb190 => ?_) (fun hb190 => ?_)
                              · replace h := h.1 hb190
                                refine sl_vg rfl rfl rfl (nt hb190) (r_mv rfl) ?_
                                refine sl_vg rfl rfl rfl (nt hb190) (r_mv rfl) ?_
                                refine sl_vg rfl rfl rfl (nt hb190) (r_mv rfl) ?_
                                refine sl_vg rfl rfl rfl (nt hb190) (ia_sl_string (s := r150) (j := k175) (o' := o178 + k175 * 1) rfl rfl hk176 hb179 rfl) ?_
                                obtain ⟨v191, hc192, h⟩ := h
                                refine sl_vg rfl rfl rfl (nt hb190) (ld_string rfl hc192) ?_
                                refine sl_g rfl rfl rfl (nt hb190) (ok_call c_vocab_Vocab_Depth rfl (Calls.mono h (fun e193 w194 hq195 => ?_)))
                                clear h
                                obtain ⟨r197, he196, hk198, hk199, hk200, h⟩ := hq195
                                refine ⟨_, he196, ?_⟩
                                replace hB170 := hk198.trans hB170
                                replace hB171 := hk199.trans hB171
                                replace hB172 := hk200.trans hB172
                                replace hx : Ext w194 w194 := Chg.refl _
                                refine sl_vg rfl rfl rfl (nt hb190) (r_lss rfl rfl) ?_
                                refine sl_v rfl (r_pf rfl (nt hb190) rfl) ?_
                                refine sl_v rfl (r_mv rfl) ?_
                                refine bcases (decide (r197 < (0 : Int))) (fun hb201 => ?_) (fun hb201 => ?_)
                                · replace h := h.1 (of_decide_eq_true hb201)
                                  refine sl_no rfl rfl rfl hb201 ?_
                                  refine sl_no rfl rfl rfl hb201 ?_
                                  refine sl_no rfl rfl rfl hb201 ?_
                                  refine sl_no rfl rfl rfl hb201 ?_
                                  refine sl_no rfl rfl rfl hb201 ?_
                                  refine sl_v rfl (r_pt rfl hb201 rfl) ?_
                                  refine sl_nil ?_
                                  refine cw_ct rfl rfl ?_
                                  refine cw_seq ?_
                                  refine cw_region ?_
                                  refine sl_op rfl (st_bool (vs := [.bool false]) rfl rfl rfl rfl rfl ⟨_, _, hB171, Nat.le_of_ble_eq_true rfl⟩ (fun w202 hw203 => ?_))
                                  have hc_ := sto_chg hw203
                                  replace hB170 := hc_.get hB170 hne8
                                  replace hB172 := hc_.get hB172 hne_b5_D111.symm
                                  replace hB171 : w202.heap[b5]? = some (.cells #[.bool false] t_bool (0, 0)) := sto_blk hw203 hB171
                                  replace h := h w202 (Chg.pre hx hc_)
                                  replace hx : Ext w202 w202 := Chg.refl _
                                  clear hc_
                                  refine sl_nil ?_
                                  refine cw_ret ?_
                                  refine rs_mk rfl hB172 (fun w204 hc205 => ?_)
                                  replace h := h w204 hc205
                                  replace hB170 := hc205.get hB170 hne_b1_D111
                                  replace hB171 := hc205.get hB171 hne_b5_D111
                                  replace hx : Ext w204 w204 := Chg.refl _
                                  exact rs_1 (rc1 Try.underlying4 rfl rfl (cell_blk hB171 rfl)) ⟨false, rfl, h⟩
                                · replace h := h.2 (of_decide_eq_false hb201)
                                  refine sl_vg rfl rfl rfl hb201 (r_mv rfl) ?_
                                  refine sl_vg rfl rfl rfl hb201 (r_mv rfl) ?_
                                  refine sl_vg rfl rfl rfl hb201 (ia_sl_string (s := r150) (j := k175) (o' := o178 + k175 * 1) rfl rfl hk176 hb179 rfl) ?_
                                  obtain ⟨v206, hc207, h⟩ := h
                                  refine sl_vg rfl rfl rfl hb201 (ld_string rfl hc207) ?_
                                  refine sl_vg rfl rfl rfl hb201 (s_eql rfl rfl) ?_
                                  refine sl_v rfl (r_pf rfl hb201 rfl) ?_
                                  refine sl_nil ?_
                                  refine bcases (decide (v206 = (⟨#[]⟩ : ByteArray))) (fun hb208 => ?_) (fun hb208 => ?_)
                                  · replace h := h.1 (of_decide_eq_true hb208)
                                    refine cw_ct rfl hb208 ?_
                                    refine cw_seq ?_
                                    refine cw_region ?_
                                    refine sl_op rfl (st_bool (vs := [.bool false]) rfl rfl rfl rfl rfl ⟨_, _, hB171, Nat.le_of_ble_eq_true rfl⟩ (fun w209 hw210 => ?_))
                                    have hc_ := sto_chg hw210
                                    replace hB170 := hc_.get hB170 hne8
                                    replace hB172 := hc_.get hB172 hne_b5_D111.symm
                                    replace hB171 : w209.heap[b5]? = some (.cells #[.bool false] t_bool (0, 0)) := sto_blk hw210 hB171
                                    replace h := h w209 (Chg.pre hx hc_)
                                    replace hx : Ext w209 w209 := Chg.refl _
                                    clear hc_
                                    refine sl_nil ?_
                                    refine cw_ret ?_
                                    refine rs_mk rfl hB172 (fun w211 hc212 => ?_)
                                    replace h := h w211 hc212
                                    replace hB170 := hc212.get hB170 hne_b1_D111
                                    replace hB171 := hc212.get hB171 hne_b5_D111
                                    replace hx : Ext w211 w211 := Chg.refl _
                                    exact rs_1 (rc1 Try.underlying4 rfl rfl (cell_blk hB171 rfl)) ⟨false, rfl, h⟩
                                  · replace h := h.2 (of_decide_eq_false hb208)
                                    refine cw_cf rfl hb208 ?_
                                    refine cw_skip ?_
                                    refine cw_region ?_
                                    refine sl_v rfl (r_mv rfl) ?_
                                    refine sl_v rfl (r_mv rfl) ?_
                                    refine sl_v rfl (r_mv rfl) ?_
                                    refine sl_v rfl (ia_sl_string (s := r150) (j := k175) (o' := o178 + k175 * 1) rfl rfl hk176 hb179 rfl) ?_
                                    refine sl_v rfl (ld_string rfl hc207) ?_
                                    obtain ⟨hs213, h⟩ := h
                                    refine sl_v rfl (s_cat rfl rfl hs213) ?_
                                    refine sl_v rfl (r_as rfl) ?_
                                    refine sl_nil ?_
                                    refine cw_region ?_
                                    refine sl_v rfl (r_mv rfl) ?_
                                    obtain ⟨z214, hz214, h⟩ := h
                                    refine sl_v rfl (r_add rfl rfl hz214) ?_
                                    refine sl_v rfl (r_as rfl) ?_
                                    refine sl_nil ?_
                                    exact ⟨(l161 ++ v206, z214, l163), _, (kp (kp (kp (kp (kp (kp (kp (kn rfl) rfl) rfl) rfl) rfl) rfl) rfl) rfl), ⟨hB170, hB171, hB172, h.1⟩, h.2⟩
                              · replace h := h.2 hb190
                                refine sl_no rfl rfl rfl (nf hb190) ?_
                                refine sl_no rfl rfl rfl (nf hb190) ?_
                                refine sl_no rfl rfl rfl (nf hb190) ?_
                                refine sl_no rfl rfl rfl (nf hb190) ?_
                                refine sl_no rfl rfl rfl (nf hb190) ?_
                                refine sl_no rfl rfl rfl (nf hb190) ?_
                                refine sl_no rfl rfl rfl (nf hb190) ?_
                                refine sl_v rfl (r_pt rfl (nf hb190) rfl) ?_
                                refine sl_v rfl (r_mv rfl) ?_
                                refine sl_no rfl rfl rfl rfl ?_
                                refine sl_no rfl rfl rfl rfl ?_
                                refine sl_no rfl rfl rfl rfl ?_
                                refine sl_no rfl rfl rfl rfl ?_
                                refine sl_no rfl rfl rfl rfl ?_
                                refine sl_v rfl (r_pt rfl rfl rfl) ?_
                                refine sl_nil ?_
                                refine cw_ct rfl rfl ?_
                                refine cw_seq ?_
                                refine cw_region ?_
                                refine sl_op rfl (st_bool (vs := [.bool false]) rfl rfl rfl rfl rfl ⟨_, _, hB171, Nat.le_of_ble_eq_true rfl⟩ (fun w215 hw216 => ?_))
                                have hc_ := sto_chg hw216
                                replace hB170 := hc_.get hB170 hne8
                                replace hB172 := hc_.get hB172 hne_b5_D111.symm
                                replace hB171 : w215.heap[b5]? = some (.cells #[.bool false] t_bool (0, 0)) := sto_blk hw216 hB171
                                replace h := h w215 (Chg.pre hx hc_)
                                replace hx : Ext w215 w215 := Chg.refl _
                                clear hc_
                                refine sl_nil ?_
                                refine cw_ret ?_
                                refine rs_mk rfl hB172 (fun w217 hc218 => ?_)
                                replace h := h w217 hc218
                                replace hB170 := hc218.get hB170 hne_b1_D111
                                replace hB171 := hc218.get hB171 hne_b5_D111
                                replace hx : Ext w217 w217 := Chg.refl _
                                exact rs_1 (rc1 Try.underlying4 rfl rfl (cell_blk hB171 rfl)) ⟨false, rfl, h⟩
                            · replace h := h.2 (of_decide_eq_false hb174)
                              refine cw_cf rfl hb174 ?_
                              refine cw_exit ?_
                              exact ⟨_, l161, l163, (kp (kp (kp (kp (kp (kn rfl) rfl) rfl) rfl) rfl) rfl), hB170, hB171, hB172, h⟩
                          · replace h := h.2 (of_decide_eq_false hb173)
                            refine sl_no rfl rfl rfl hb173 ?_
                            refine sl_no rfl rfl rfl hb173 ?_
                            refine sl_v rfl (r_pf rfl hb173 rfl) ?_
                            refine sl_nil ?_
                            refine cw_cf rfl rfl ?_
                            refine cw_exit ?_
                            exact ⟨_, l161, l163, (kp (kp (kp (kp (kp (kn rfl) rfl) rfl) rfl) rfl) rfl), hB170, hB171, hB172, h⟩
                        ·
                          obtain ⟨g159, j154, j155, rfl, hB219, hB220, hB221, hM160⟩ := hM160
                          replace h := hK157 j154 j155 w158 hM160
                          have hx : Ext w158 w158 := Chg.refl _
                          refine cw_seq ?_
                          refine cw_region ?_
                          refine sl_op rfl (al_int rfl (fun b222 w223 hN224 => ?_))
                          have hne225 : b1 ≠ b222 := Nat.ne_of_lt (Nat.lt_of_lt_of_le (lt_of_blk hB219) hN224.fresh)
                          have hne226 : b5 ≠ b222 := Nat.ne_of_lt (Nat.lt_of_lt_of_le (lt_of_blk hB220) hN224.fresh)
                          have hne227 : D111 ≠ b222 := Nat.ne_of_lt (Nat.lt_of_lt_of_le (lt_of_blk hB221) hN224.fresh)
                          replace hB219 := hN224.ext.get hB219
                          replace hB220 := hN224.ext.get hB220
                          replace hB221 := hN224.ext.get hB221
                          have hB228 := hN224.here
                          replace h := h b222 w223 ⟨hx.tr hN224.ext, Nat.le_trans hx.size hN224.fresh, lt_of_blk hN224.here⟩
                          replace hx : Ext w223 w223 := Chg.refl _
                          refine sl_op rfl (st_int (vs := [.int .i64 0]) rfl rfl rfl rfl rfl ⟨_, _, hB228, Nat.le_of_ble_eq_true rfl⟩ (fun w229 hw230 => ?_))
                          have hc_ := sto_chg hw230
                          replace hB219 := hc_.get hB219 hne225
                          replace hB220 := hc_.get hB220 hne226
                          replace hB221 := hc_.get hB221 hne227
                          replace hB228 : w229.heap[b222]? = some (.cells #[.int .i64 0] t_int (0, 0)) := sto_blk hw230 hB228
                          replace h := h w229 (Chg.pre hx hc_)
                          replace hx : Ext w229 w229 := Chg.refl _
                          clear hc_
                          refine sl_nil ?_
                          refine cw_seq ?_
                          refine cw_region ?_
                          refine sl_v rfl (r_mv rfl) ?_
                          refine sl_op rfl (ok_call c_vocab_Vocab_Texts rfl (Calls.mono h (fun e231 w232 hq233 => ?_)))
                          clear h
                          obtain ⟨r235, he234, hk236, hk237, hk238, hk239, h⟩ := hq233
                          refine ⟨_, he234, ?_⟩
                          replace hB219 := hk236.trans hB219
                          replace hB220 := hk237.trans hB220
                          replace hB221 := hk238.trans hB221
                          replace hB228 := hk239.trans hB228
                          replace hx : Ext w232 w232 := Chg.refl _
                          refine sl_v rfl (r_as rfl) ?_
                          refine sl_nil ?_
                          refine cw_seq ?_
                          refine cw_seq ?_
                          refine cw_region ?_
                          refine sl_v rfl (r_mv rfl) ?_
                          obtain ⟨fn240, fa241, fb242, rfl, h⟩ := h
                          refine sl_v rfl (f_eqn Try.underlying42 rfl rfl rfl) ?_
                          refine sl_nil ?_
                          refine cw_cf rfl rfl ?_
                          refine cw_skip ?_
                          obtain ⟨K244, hK245, h⟩ := h
                          refine cw_mid (fun f w => ∃ (g : Env) (j243 : Int) (D249 : Nat), f = (upd (upd (upd (upd (upd (upd (nm g [D249, D111]) 1 (.string a1)) 5 (.pointer (some ⟨b1, 0, none⟩))) 6 (.pointer (some ⟨b5, 0, none⟩))) 8 (.pointer r127_0)) 10 (.string j154)) 13 (.pointer (some ⟨b222, 0, none⟩))) ∧ w.heap[b1]? = some (.cells #[.int .u8 a2] t_uint8 (0, 0)) ∧ w.heap[b5]? = some (.cells #[.bool j155] t_bool (0, 0)) ∧ w.heap[D111]? = some (.deferred (some [])) ∧ w.heap[b222]? = some (.cells #[.int .i64 j243] t_int (0, 0)) ∧ w.heap[D249]? = some (.deferred (some [])) ∧ b1 ≠ D249 ∧ b5 ≠ D249 ∧ D111 ≠ D249 ∧ b222 ≠ D249 ∧ K244 j243 D249 w) ?_ (fun _ w246 hM248 => ?_)
                          ·
                            refine cw_seq ?_
                            refine cw_region ?_
                            refine sl_v rfl (r_mv rfl) ?_
                            refine sl_nil ?_
                            refine cw_block ?_
                            obtain ⟨Fp252, S253, Sp254, N255, hs256, I257, X264, hI258, hX265, h0259, hB260, hD261, h⟩ := h
                            refine cw_rf (α := ByteArray) rfl hs256 (fun _ => rfl) asg_skip (fun pre w => ∃ (l251 : Int), w.heap[b1]? = some (.cells #[.int .u8 a2] t_uint8 (0, 0)) ∧ w.heap[b5]? = some (.cells #[.bool j155] t_bool (0, 0)) ∧ w.heap[D111]? = some (.deferred (some [])) ∧ w.heap[b222]? = some (.cells #[.int .i64 l251] t_int (0, 0)) ∧ I257 pre l251 w) (fun c pre w => (c = .exit 4 ∧ ∃ (l251 : Int), w.heap[b1]? = some (.cells #[.int .u8 a2] t_uint8 (0, 0)) ∧ w.heap[b5]? = some (.cells #[.bool j155] t_bool (0, 0)) ∧ w.heap[D111]? = some (.deferred (some [])) ∧ w.heap[b222]? = some (.cells #[.int .i64 l251] t_int (0, 0)) ∧ X264 pre l251 w)) ?_ ?_ ⟨0, hB219, hB220, hB221, hB228, h0259⟩ ?_ ?_ ?_ ?_ ?_
                            · rintro pre_ w_ w2_ row_ ⟨l251, hB267, hB268, hB269, hB270, hi_⟩ hg_ hr_
                              exact ⟨l251, own_cells hB267 hg_ hr_, own_cells hB268 hg_ hr_, own_low hB269 (lt_of_blk hB221) hg_ hr_, own_cells hB270 hg_ hr_, hI258 l251 _ _ _ _ hi_ hg_ hr_⟩
                            · intro c_ pre_ w_ w2_ row_ hx_ hg_ hr_
                              rcases hx_ with ⟨e_, l251, hB267, hB268, hB269, hB270, hi_⟩
                              · exact ⟨e_, ⟨l251, own_cells hB267 hg_ hr_, own_cells hB268 hg_ hr_, own_low hB269 (lt_of_blk hB221) hg_ hr_, own_cells hB270 hg_ hr_, hX265 l251 _ _ _ _ hi_ hg_ hr_⟩⟩
                            · rintro l272 pre271 x250 w262 ⟨l251, hB267, hB268, hB269, hB270, hi_⟩ hl273
                              replace h := hB260 pre271 x250 l251 w262 hi_ hl273
                              have hx : Ext w262 w262 := Chg.refl _
                              have hc0_b1 := hB267
                              have hc0_b5 := hB268
                              have hc0_b222 := hB270
                              refine cw_block ?_
                              refine cw_seq ?_
                              refine cw_region ?_
                              refine sl_v rfl (ld_int rfl (cell_blk hB270 rfl)) ?_
                              obtain ⟨z274, hz274, h⟩ := h
                              refine sl_v rfl (r_add rfl rfl hz274) ?_
                              refine sl_op rfl (st_int (vs := [.int .i64 z274]) rfl rfl rfl rfl rfl ⟨_, _, hB270, Nat.le_of_ble_eq_true rfl⟩ (fun w275 hw276 => ?_))
                              have hc_ := sto_chg hw276
                              replace hB267 := hc_.get hB267 hne225
                              replace hB268 := hc_.get hB268 hne226
                              replace hB269 := hc_.get hB269 hne227
                              replace hB270 : w275.heap[b222]? = some (.cells #[.int .i64 z274] t_int (0, 0)) := sto_blk hw276 hB270
                              replace h := h w275 (Chg.pre hx hc_)
                              replace hx : Ext w275 w275 := Chg.refl _
                              clear hc_
                              refine sl_nil ?_
                              refine cw_seq ?_
                              refine cw_region ?_
                              refine sl_v rfl (ld_int rfl (cell_blk hB270 rfl)) ?_
                              refine sl_v rfl (ld_uint8 rfl (cell_blk hB267 rfl)) ?_
                              obtain ⟨z277, hz277, h⟩ := h
                              refine sl_v rfl (r_ci (z := z277) rfl Try.underlying5 Try.underlying3 hz277) ?_
                              refine sl_v rfl (r_gtr rfl rfl) ?_
                              refine sl_nil ?_
                              refine bcases (decide (z277 < z274)) (fun hb278 => ?_) (fun hb278 => ?_)
                              · replace h := h.1 (of_decide_eq_true hb278)
                                refine cw_ct rfl hb278 ?_
                                refine cw_exit ?_
                                exact ⟨h.1.keeps (cells_cons hc0_b1 (cells_cons hc0_b5 (cells_cons hc0_b222 cells_nil))), ⟨rfl, ⟨z274, hB267, hB268, hB269, hB270, h.2⟩⟩⟩
                              · replace h := h.2 (of_decide_eq_false hb278)
                                refine cw_cf rfl hb278 ?_
                                refine cw_skip ?_
                                exact ⟨h.1.keeps (cells_cons hc0_b1 (cells_cons hc0_b5 (cells_cons hc0_b222 cells_nil))), h.2.1, ⟨z274, hB267, hB268, hB269, hB270, h.2.2⟩⟩
                            · rintro D263 xs_ w262 hD_ hS_ ⟨l251, hB267, hB268, hB269, hB270, hi_⟩ hk_
                              replace h := hD261 xs_ l251 w262 D263 hD_ (lt_of_blk hk_) hS_ hi_
                              have hx : Ext w262 w262 := Chg.refl _
                              have hne_b1_D263 : b1 ≠ D263 := Nat.ne_of_lt (Nat.lt_of_lt_of_le (lt_of_blk hB219) hD_)
                              have hne_b5_D263 : b5 ≠ D263 := Nat.ne_of_lt (Nat.lt_of_lt_of_le (lt_of_blk hB220) hD_)
                              have hne_D111_D263 : D111 ≠ D263 := Nat.ne_of_lt (Nat.lt_of_lt_of_le (lt_of_blk hB221) hD_)
                              have hne_b222_D263 : b222 ≠ D263 := Nat.ne_of_lt (Nat.lt_of_lt_of_le (lt_of_blk hB228) hD_)
                              exact ⟨_, l251, D263, (kp (kp (kp (kp (kp (kp (kn rfl) rfl) rfl) rfl) rfl) rfl) rfl), hB267, hB268, hB269, hB270, hk_, hne_b1_D263, hne_b5_D263, hne_D111_D263, hne_b222_D263, h⟩
                            · rintro D263 pre_ w262 hD_ hS_ hx_ hk_
                              rcases hx_ with ⟨e_, l251, hB267, hB268, hB269, hB270, hi_⟩
                              ·
                                cases e_
                            · rintro D263 id_ pre_ w262 hD_ hS_ hx_ hk_
                              rcases hx_ with ⟨e_, l251, hB267, hB268, hB269, hB270, hi_⟩
                              ·
                                cases e_
                                replace h := h pre_ l251 w262 D263 hD_ (lt_of_blk hk_) hS_ hi_
                                have hx : Ext w262 w262 := Chg.refl _
                                have hne_b1_D263 : b1 ≠ D263 := Nat.ne_of_lt (Nat.lt_of_lt_of_le (lt_of_blk hB219) hD_)
                                have hne_b5_D263 : b5 ≠ D263 := Nat.ne_of_lt (Nat.lt_of_lt_of_le (lt_of_blk hB220) hD_)
                                have hne_D111_D263 : D111 ≠ D263 := Nat.ne_of_lt (Nat.lt_of_lt_of_le (lt_of_blk hB221) hD_)
                                have hne_b222_D263 : b222 ≠ D263 := Nat.ne_of_lt (Nat.lt_of_lt_of_le (lt_of_blk hB228) hD_)
                                exact ⟨_, l251, D263, (kp (kp (kp (kp (kp (kp (kn rfl) rfl) rfl) rfl) rfl) rfl) rfl), hB267, hB268, hB269, hB270, hk_, hne_b1_D263, hne_b5_D263, hne_D111_D263, hne_b222_D263, h⟩
                            · intro c_ pre_ w_ hx_
                              rcases hx_ with ⟨e_, -⟩
                              · exact .inr ⟨_, e_⟩
                          ·
                            obtain ⟨g247, j243, D249, rfl, hB281, hB282, hB283, hB284, hB285, hne286, hne287, hne288, hne289, hM248⟩ := hM248
                            replace h := hK245 j243 D249 w246 hM248
                            have hx : Ext w246 w246 := Chg.refl _
                            refine cw_seq ?_
                            refine bcases (decide (j154 = a1)) (fun hb290 => ?_) (fun hb290 => ?_)
                            · replace h := h.1 (of_decide_eq_true hb290)
                              obtain ⟨z291, hz291, h⟩ := h
                              obtain ⟨z292, hz292, h⟩ := h
                              refine cw_dw (S := fun w' => w'.cell? ⟨b222, 0, none⟩ = some (.int .i64 j243) ∧ w'.cell? ⟨b1, 0, none⟩ = some (.int .u8 a2) ∧ True) mo (fun w293 hd294 => ?_)
                              replace hB281 := (Ext.of_drew hd294).get hB281
                              replace hB282 := (Ext.of_drew hd294).get hB282
                              replace hB283 := (Ext.of_drew hd294).get hB283
                              replace hB284 := (Ext.of_drew hd294).get hB284
                              replace hB285 := (Ext.of_drew hd294).get hB285
                              replace hx := hx.tr (Ext.of_drew hd294)
                              have hS : w293.cell? ⟨b222, 0, none⟩ = some (.int .i64 j243) ∧ w293.cell? ⟨b1, 0, none⟩ = some (.int .u8 a2) ∧ True := ⟨(cell_blk hB284 rfl), (cell_blk hB281 rfl), trivial⟩
                              refine dw_t 0 1 rfl (by kernel_rfl) rfl hS (fun _ _ => (r_mv rfl)) ?_
                              refine dw_t 1 3 rfl (by kernel_rfl) rfl hS (fun _ _ => (r_mv rfl)) ?_
                              refine dw_t 2 7 rfl (by kernel_rfl) rfl hS (fun _ _ => (s_eql rfl rfl)) ?_
                              refine dw_t 3 15 rfl (by kernel_rfl) rfl hS (fun _ _ => (r_mv rfl)) ?_
                              refine dw_tg 4 31 rfl (by kernel_rfl) rfl rfl rfl hb290 hS (fun _ hS => (ld_int rfl hS.1)) ?_
                              refine dw_tg 5 63 rfl (by kernel_rfl) rfl rfl rfl hb290 hS (fun _ _ => (r_mv rfl)) ?_
                              refine dw_tg 7 191 rfl (by kernel_rfl) rfl rfl rfl hb290 hS (fun _ hS => (ld_uint8 rfl hS.2.1)) ?_
                              refine dw_tg 8 447 rfl (by kernel_rfl) rfl rfl rfl hb290 hS (fun _ _ => (r_ci (z := z291) rfl Try.underlying5 Try.underlying3 hz291)) ?_
                              refine dw_tg 9 959 rfl (by kernel_rfl) rfl rfl rfl hb290 hS (fun _ _ => (r_add rfl rfl hz292)) ?_
                              replace h := h _ hx
                              replace hx : Ext w293 w293 := Chg.refl _
                              refine dw_lg 6 1023 rfl (by kernel_rfl) rfl rfl rfl hb290 (ok_call c_vocab_Vocab_Len rfl (Calls.mono h (fun e296 w297 hq298 => ?_)))
                              clear h
                              obtain ⟨r300, he299, hk301, hk302, hk303, hk304, hk305, h⟩ := hq298
                              refine ⟨_, he299, ?_⟩
                              replace hB281 := hk301.trans hB281
                              replace hB282 := hk302.trans hB282
                              replace hB283 := hk303.trans hB283
                              replace hB284 := hk304.trans hB284
                              replace hB285 := hk305.trans hB285
                              replace hx : Ext w297 w297 := Chg.refl _
                              replace hS : w297.cell? ⟨b222, 0, none⟩ = some (.int .i64 j243) ∧ w297.cell? ⟨b1, 0, none⟩ = some (.int .u8 a2) ∧ True := ⟨(cell_blk hB284 rfl), (cell_blk hB281 rfl), trivial⟩
                              refine ⟨hS, ?_⟩
                              refine dw_tg 10 2047 rfl (by kernel_rfl) rfl rfl rfl hb290 hS (fun _ _ => (r_min rfl rfl)) ?_
                              refine dw_tg 11 4095 rfl (by kernel_rfl) rfl rfl rfl hb290 hS (fun _ _ => (r_eql rfl rfl)) ?_
                              refine dw_t 12 8191 rfl (by kernel_rfl) rfl hS (fun _ _ => (r_pt rfl hb290 rfl)) ?_
                              refine dw_l 13 16383 rfl (by kernel_rfl) rfl (st_bool (vs := [.bool (decide (j243 = (min r300 z292 : Int)))]) rfl rfl rfl rfl rfl ⟨_, _, hB282, Nat.le_of_ble_eq_true rfl⟩ (fun w306 hw307 => ?_))
                              have hc_ := sto_chg hw307
                              replace hB281 := hc_.get hB281 hne8
                              replace hB283 := hc_.get hB283 hne_b5_D111.symm
                              replace hB284 := hc_.get hB284 hne226.symm
                              replace hB285 := hc_.get hB285 hne287.symm
                              replace hB282 : w306.heap[b5]? = some (.cells #[.bool (decide (j243 = (min r300 z292 : Int)))] t_bool (0, 0)) := sto_blk hw307 hB282
                              replace h := h w306 (Chg.pre hx hc_)
                              replace hx : Ext w306 w306 := Chg.refl _
                              clear hc_
                              replace hS : w306.cell? ⟨b222, 0, none⟩ = some (.int .i64 j243) ∧ w306.cell? ⟨b1, 0, none⟩ = some (.int .u8 a2) ∧ True := ⟨(cell_blk hB284 rfl), (cell_blk hB281 rfl), trivial⟩
                              refine ⟨hS, ?_⟩
                              refine dw_d (by kernel_rfl) ?_
                              clear hS
                              refine cw_ret ?_
                              refine rs_mk rfl hB285 (fun w308 hc309 => ?_)
                              replace h := h w308 hc309
                              replace hB281 := hc309.get hB281 hne286
                              replace hB282 := hc309.get hB282 hne287
                              replace hB283 := hc309.get hB283 hne288
                              replace hB284 := hc309.get hB284 hne289
                              replace hx : Ext w308 w308 := Chg.refl _
                              refine rs_mk rfl hB283 (fun w310 hc311 => ?_)
                              replace h := h w310 hc311
                              replace hB281 := hc311.get hB281 hne_b1_D111
                              replace hB282 := hc311.get hB282 hne_b5_D111
                              replace hB284 := hc311.get hB284 hne227.symm
                              replace hx : Ext w310 w310 := Chg.refl _
                              exact rs_1 (rc1 Try.underlying4 rfl rfl (cell_blk hB282 rfl)) ⟨decide (j243 = (min r300 z292 : Int)), rfl, h⟩
                            · replace h := h.2 (of_decide_eq_false hb290)
                              refine cw_dw (S := fun w' => True) mo (fun w312 hd313 => ?_)
                              replace hB281 := (Ext.of_drew hd313).get hB281
                              replace hB282 := (Ext.of_drew hd313).get hB282
                              replace hB283 := (Ext.of_drew hd313).get hB283
                              replace hB284 := (Ext.of_drew hd313).get hB284
                              replace hB285 := (Ext.of_drew hd313).get hB285
                              replace hx := hx.tr (Ext.of_drew hd313)
                              have hS : True := trivial
                              refine dw_t 0 1 rfl (by kernel_rfl) rfl hS (fun _ _ => (r_mv rfl)) ?_
                              refine dw_t 1 3 rfl (by kernel_rfl) rfl hS (fun _ _ => (r_mv rfl)) ?_
                              refine dw_t 2 7 rfl (by kernel_rfl) rfl hS (fun _ _ => (s_eql rfl rfl)) ?_
                              refine dw_t 3 15 rfl (by kernel_rfl) rfl hS (fun _ _ => (r_mv rfl)) ?_
                              refine dw_no 4 31 rfl (by kernel_rfl) rfl rfl rfl hb290 hS ?_
                              refine dw_no 5 63 rfl (by kernel_rfl) rfl rfl rfl hb290 hS ?_
                              refine dw_no 6 127 rfl (by kernel_rfl) rfl rfl rfl hb290 hS ?_
                              refine dw_no 7 255 rfl (by kernel_rfl) rfl rfl rfl hb290 hS ?_
                              refine dw_no 8 511 rfl (by kernel_rfl) rfl rfl rfl hb290 hS ?_
                              refine dw_no 9 1023 rfl (by kernel_rfl) rfl rfl rfl hb290 hS ?_
                              refine dw_no 10 2047 rfl (by kernel_rfl) rfl rfl rfl hb290 hS ?_
                              refine dw_no 11 4095 rfl (by kernel_rfl) rfl rfl rfl hb290 hS ?_
                              refine dw_t 12 8191 rfl (by kernel_rfl) rfl hS (fun _ _ => (r_pf rfl hb290 rfl)) ?_
                              refine dw_l 13 16383 rfl (by kernel_rfl) rfl (st_bool (vs := [.bool false]) rfl rfl rfl rfl rfl ⟨_, _, hB282, Nat.le_of_ble_eq_true rfl⟩ (fun w314 hw315 => ?_))
                              have hc_ := sto_chg hw315
                              replace hB281 := hc_.get hB281 hne8
                              replace hB283 := hc_.get hB283 hne_b5_D111.symm
                              replace hB284 := hc_.get hB284 hne226.symm
                              replace hB285 := hc_.get hB285 hne287.symm
                              replace hB282 : w314.heap[b5]? = some (.cells #[.bool false] t_bool (0, 0)) := sto_blk hw315 hB282
                              replace h := h w314 (Chg.pre hx hc_)
                              replace hx : Ext w314 w314 := Chg.refl _
                              clear hc_
                              replace hS : True := trivial
                              refine ⟨hS, ?_⟩
                              refine dw_d (by kernel_rfl) ?_
                              clear hS
                              refine cw_ret ?_
                              refine rs_mk rfl hB285 (fun w316 hc317 => ?_)
                              replace h := h w316 hc317
                              replace hB281 := hc317.get hB281 hne286
                              replace hB282 := hc317.get hB282 hne287
                              replace hB283 := hc317.get hB283 hne288
                              replace hB284 := hc317.get hB284 hne289
                              replace hx : Ext w316 w316 := Chg.refl _
                              refine rs_mk rfl hB283 (fun w318 hc319 => ?_)
                              replace h := h w318 hc319
                              replace hB281 := hc319.get hB281 hne_b1_D111
                              replace hB282 := hc319.get hB282 hne_b5_D111
                              replace hB284 := hc319.get hB284 hne227.symm
                              replace hx : Ext w318 w318 := Chg.refl _
                              exact rs_1 (rc1 Try.underlying4 rfl rfl (cell_blk hB282 rfl)) ⟨false, rfl, h⟩
                  · rintro D111 pre_ w110 hD_ hS_ hx_ hk_
                    rcases hx_ with ⟨e_, l99, hB115, hB116, hi_⟩
                    ·
                      replace h := h pre_ l99 w110 D111 hD_ (lt_of_blk hk_) hS_ hi_
                      have hx : Ext w110 w110 := Chg.refl _
                      have hne_b1_D111 : b1 ≠ D111 := Nat.ne_of_lt (Nat.lt_of_lt_of_le (lt_of_blk hB4) hD_)
                      have hne_b5_D111 : b5 ≠ D111 := Nat.ne_of_lt (Nat.lt_of_lt_of_le (lt_of_blk hB9) hD_)
                      refine rs_mk rfl hk_ (fun w321 hc322 => ?_)
                      replace h := h w321 hc322
                      replace hB115 := hc322.get hB115 hne_b1_D111
                      replace hB116 := hc322.get hB116 hne_b5_D111
                      replace hx : Ext w321 w321 := Chg.refl _
                      exact rs_1 (rc1 Try.underlying4 rfl rfl (cell_blk hB116 rfl)) ⟨l99, rfl, h⟩
                  · rintro D111 id_ pre_ w110 hD_ hS_ hx_ hk_
                    rcases hx_ with ⟨e_, l99, hB115, hB116, hi_⟩
                    ·
                      cases e_
                  · intro c_ pre_ w_ hx_
                    rcases hx_ with ⟨e_, -⟩
                    · exact .inl e_
  · replace h := h.2 hb17
    refine cw_ct rfl (nf hb17) ?_
    refine cw_seq ?_
    refine cw_region ?_
    refine sl_op rfl (st_bool (vs := [.bool false]) rfl rfl rfl rfl rfl ⟨_, _, hB9, Nat.le_of_ble_eq_true rfl⟩ (fun w323 hw324 => ?_))
    have hc_ := sto_chg hw324
    replace hB4 := hc_.get hB4 hne8
    replace hB9 : w323.heap[b5]? = some (.cells #[.bool false] t_bool (0, 0)) := sto_blk hw324 hB9
    replace h := h w323 (Chg.pre hx hc_)
    replace hx : Ext w323 w323 := Chg.refl _
    clear hc_
    refine sl_nil ?_
    refine cw_ret ?_
    exact rs_1 (rc1 Try.underlying4 rfl rfl (cell_blk hB9 rfl)) ⟨false, rfl, h⟩

def VC_law20_ApplyLearnt (a0 : Sl) (a1 : Int) (a2 : Int) (R : Bool → World → Prop) (w : World) : Prop :=
  Calls PP n_law20_awake #[] w (fun e w2 => ∃ r5 : Bool, e = .returned (.bool r5) ∧ ((r5 = true → (Calls PP n_ref07_Great #[a0.v, .int .i64 60] w2 (fun e w8 => ∃ r11 : Bool, e = .returned (.bool r11) ∧ ((r11 = true → (R true w8)) ∧ (r11 = false → (Calls PP n_ref08_Positions #[a0.v] w8 (fun e w14 => ∃ r17 : Int, e = .returned (.int .i64 r17) ∧ (((300 : Int) < r17 → (R true w14)) ∧ (¬ ((300 : Int) < r17) → (Calls PP n_ref16_Learn #[a0.v, .int .i64 a1, .int .i64 a2] w14 (fun e w20 => ∃ r23 : Sl, e = .returned (r23.v) ∧ (Calls PP n_apply_New #[r23.v] w20 (fun e w25 => ∃ r28_0 : Option Addr, ∃ r28_1 : Int, e = .returned (.tuple #[.pointer r28_0, .int .i64 r28_1]) ∧ ((r28_1 ≠ (0 : Int) → (R false w25)) ∧ (¬ (r28_1 ≠ (0 : Int)) → ((r28_0 = none → (R false w25)) ∧ (¬ (r28_0 = none) → (Calls PP n_ref17_Words #[a0.v, r23.v] w25 (fun e w32 => ∃ r35 : Sl, e = .returned (r35.v) ∧ (∃ (I37 : Int → World → Prop) (μ38 : Int → World → Nat), I37 0 w32 ∧ ∀ (l36 : Int) (w40 : World), I37 l36 w40 → ((l36 < ((a0.n : Nat) : Int) → (∃ k44 : Nat, l36 = ((k44 : Nat) : Int) ∧ k44 < a0.n ∧ (∃ (b46 o47 : Nat), a0.b = some ⟨b46, o47, none⟩ ∧ (∃ v49 : ByteArray, w40.cell? ⟨b46, o47 + k44 * 2, none⟩ = some (.string v49) ∧ (k44 < r35.n ∧ (∃ (b52 o53 : Nat), r35.b = some ⟨b52, o53, none⟩ ∧ (∃ v55 : Sl, w40.cell? ⟨b52, o53 + k44 * 1, none⟩ = some (v55.v) ∧ (∀ w57 : World, Ext w40 w57 → (Calls PP n_apply_Coder_Split #[.pointer r28_0, .string v49] w57 (fun e w61 => ∃ r64 : Sl, e = .returned (r64.v) ∧ (w61.cell? ⟨b46, o47 + k44 * 2, none⟩ = some (.string v49) ∧ (w61.cell? ⟨b52, o53 + k44 * 1, none⟩ = some (v55.v) ∧ (Calls PP n_ref01_Texts #[r64.v, v55.v] w61 (fun e w68 => ∃ r71 : Bool, e = .returned (.bool r71) ∧ (w68.cell? ⟨b46, o47 + k44 * 2, none⟩ = some (.string v49) ∧ (w68.cell? ⟨b52, o53 + k44 * 1, none⟩ = some (v55.v) ∧ ((r71 = true → (∃ z75 : Int, z75 = IntKind.wrap .i64 (((k44 : Nat) : Int) + 1) ∧ (I37 z75 w68 ∧ μ38 z75 w68 < μ38 l36 w40))) ∧ (r71 = false → (R false w68))))))))))))))))))) ∧ (¬ (l36 < ((a0.n : Nat) : Int)) → (R true w40))))))))))))))))))))))) ∧ (r5 = false → (R false w2))))
set_option maxRecDepth 100000 in
theorem vc_law20_ApplyLearnt {a0 : Sl} {a1 : Int} {a2 : Int} {R : Bool → World → Prop} {w : World} (h : VC_law20_ApplyLearnt a0 a1 a2 R w) : Calls PP n_law20_ApplyLearnt #[a0.v, .int .i64 a1, .int .i64 a2] w fun e w' => ∃ r0 : Bool, e = .returned (.bool r0) ∧ R r0 w' := by
  refine Calls.mono (calls_of_cw (n := 58) (rs := #[.tmp 6]) (args := [a0.v, .int .i64 a1, .int .i64 a2]) (R := fun v w' => ∃ r0 : Bool, v = .bool r0 ∧ R r0 w') Try.func5 rfl rfl (Nat.le_of_ble_eq_true rfl) rfl ?_) ?_
  case refine_2 => rintro e w' ⟨v, rfl, hr⟩; obtain ⟨r0, rfl, hr⟩ := hr; exact ⟨r0, rfl, hr⟩
  have hx : Ext w w := Chg.refl _
  unfold VC_law20_ApplyLearnt at h
  refine cw_seq ?_
  refine cw_region ?_
  refine sl_v rfl (r_as rfl) ?_
  refine sl_nil ?_
  refine cw_seq ?_
  refine cw_seq ?_
  refine cw_region ?_
  refine sl_op rfl (ok_call c_law20_awake rfl (Calls.mono h (fun e1 w2 hq3 => ?_)))
  clear h
  obtain ⟨r5, he4, h⟩ := hq3
  refine ⟨_, he4, ?_⟩
  replace hx : Ext w2 w2 := Chg.refl _
  refine sl_v rfl (r_not rfl) ?_
  refine sl_nil ?_
  refine bcases (r5) (fun hb6 => ?_) (fun hb6 => ?_)
  · replace h := h.1 hb6
    refine cw_cf rfl (nt hb6) ?_
    refine cw_skip ?_
    refine cw_seq ?_
    refine cw_seq ?_
    refine cw_region ?_
    refine sl_v rfl (r_mv rfl) ?_
    refine sl_op rfl (ok_call c_ref07_Great rfl (Calls.mono h (fun e7 w8 hq9 => ?_)))
    clear h
    obtain ⟨r11, he10, h⟩ := hq9
    refine ⟨_, he10, ?_⟩
    replace hx : Ext w8 w8 := Chg.refl _
    refine sl_v rfl (r_mv rfl) ?_
    refine bcases (r11) (fun hb12 => ?_) (fun hb12 => ?_)
    · replace h := h.1 hb12
      refine sl_no rfl rfl rfl hb12 ?_
      refine sl_no rfl rfl rfl hb12 ?_
      refine sl_no rfl rfl rfl hb12 ?_
      refine sl_v rfl (r_pt rfl hb12 rfl) ?_
      refine sl_nil ?_
      refine cw_ct rfl rfl ?_
      refine cw_seq ?_
      refine cw_region ?_
      refine sl_v rfl (r_as rfl) ?_
      refine sl_nil ?_
      refine cw_ret ?_
      exact rs_1 (rt rfl) ⟨true, rfl, h⟩
    · replace h := h.2 hb12
      refine sl_vg rfl rfl rfl hb12 (r_mv rfl) ?_
      refine sl_g rfl rfl rfl hb12 (ok_call c_ref08_Positions rfl (Calls.mono h (fun e13 w14 hq15 => ?_)))
      clear h
      obtain ⟨r17, he16, h⟩ := hq15
      refine ⟨_, he16, ?_⟩
      replace hx : Ext w14 w14 := Chg.refl _
      refine sl_vg rfl rfl rfl hb12 (r_gtr rfl rfl) ?_
      refine sl_v rfl (r_pf rfl hb12 rfl) ?_
      refine sl_nil ?_
      refine bcases (decide ((300 : Int) < r17)) (fun hb18 => ?_) (fun hb18 => ?_)
      · replace h := h.1 (of_decide_eq_true hb18)
        refine cw_ct rfl hb18 ?_
        refine cw_seq ?_
        refine cw_region ?_
        refine sl_v rfl (r_as rfl) ?_
        refine sl_nil ?_
        refine cw_ret ?_
        exact rs_1 (rt rfl) ⟨true, rfl, h⟩
      · replace h := h.2 (of_decide_eq_false hb18)
        refine cw_cf rfl hb18 ?_
        refine cw_skip ?_
        refine cw_seq ?_
        refine cw_region ?_
        refine sl_v rfl (r_mv rfl) ?_
        refine sl_v rfl (r_mv rfl) ?_
        refine sl_v rfl (r_mv rfl) ?_
        refine sl_op rfl (ok_call c_ref16_Learn rfl (Calls.mono h (fun e19 w20 hq21 => ?_)))
        clear h
        obtain ⟨r23, he22, h⟩ := hq21
        refine ⟨_, he22, ?_⟩
        replace hx : Ext w20 w20 := Chg.refl _
        refine sl_v rfl (r_as rfl) ?_
        refine sl_nil ?_
        refine cw_seq ?_
        refine cw_region ?_
        refine sl_v rfl (r_mv rfl) ?_
        refine sl_op rfl (ok_call c_apply_New rfl (Calls.mono h (fun e24 w25 hq26 => ?_)))
        clear h
        obtain ⟨r28_0, r28_1, he27, h⟩ := hq26
        refine ⟨_, he27, ?_⟩
        replace hx : Ext w25 w25 := Chg.refl _
        refine sl_v rfl (r_mv rfl) ?_
        refine sl_v rfl (r_ex rfl rfl) ?_
        refine sl_v rfl (r_ex rfl rfl) ?_
        refine sl_v rfl (r_as rfl) ?_
        refine sl_v rfl (r_as rfl) ?_
        refine sl_nil ?_
        refine cw_seq ?_
        refine cw_seq ?_
        refine cw_region ?_
        refine sl_v rfl (r_mv rfl) ?_
        refine sl_v rfl (r_neq rfl rfl) ?_
        refine sl_v rfl (r_mv rfl) ?_
        refine bcases (decide (r28_1 ≠ (0 : Int))) (fun hb29 => ?_) (fun hb29 => ?_)
        · replace h := h.1 (of_decide_eq_true hb29)
          refine sl_no rfl rfl rfl hb29 ?_
          refine sl_no rfl rfl rfl hb29 ?_
          refine sl_v rfl (r_pt rfl hb29 rfl) ?_
          refine sl_nil ?_
          refine cw_ct rfl rfl ?_
          refine cw_seq ?_
          refine cw_region ?_
          refine sl_v rfl (r_as rfl) ?_
          refine sl_nil ?_
          refine cw_ret ?_
          exact rs_1 (rt rfl) ⟨false, rfl, h⟩
        · replace h := h.2 (of_decide_eq_false hb29)
          refine sl_vg rfl rfl rfl hb29 (r_mv rfl) ?_
          refine sl_vg rfl rfl rfl hb29 (p_eqn rfl rfl Try.underlying50) ?_
          refine sl_v rfl (r_pf rfl hb29 rfl) ?_
          refine sl_nil ?_
          refine bcases (decide (r28_0 = none)) (fun hb30 => ?_) (fun hb30 => ?_)
          · replace h := h.1 (of_decide_eq_true hb30)
            refine cw_ct rfl hb30 ?_
            refine cw_seq ?_
            refine cw_region ?_
            refine sl_v rfl (r_as rfl) ?_
            refine sl_nil ?_
            refine cw_ret ?_
            exact rs_1 (rt rfl) ⟨false, rfl, h⟩
          · replace h := h.2 (of_decide_eq_false hb30)
            refine cw_cf rfl hb30 ?_
            refine cw_skip ?_
            refine cw_seq ?_
            refine cw_region ?_
            refine sl_v rfl (r_mv rfl) ?_
            refine sl_v rfl (r_mv rfl) ?_
            refine sl_op rfl (ok_call c_ref17_Words rfl (Calls.mono h (fun e31 w32 hq33 => ?_)))
            clear h
            obtain ⟨r35, he34, h⟩ := hq33
            refine ⟨_, he34, ?_⟩
            replace hx : Ext w32 w32 := Chg.refl _
            refine sl_v rfl (r_as rfl) ?_
            refine sl_nil ?_
            refine cw_seq ?_
            refine cw_seq ?_
            refine cw_region ?_
            refine sl_v rfl (r_as rfl) ?_
            refine sl_nil ?_
            refine cw_block ?_
            obtain ⟨I37, μ38, hI39, h⟩ := h
            refine cw_loop (σ := Int) (fun s g => (upd (upd (upd (upd (nm g []) 0 (a0.v)) 8 (.pointer r28_0)) 10 (r35.v)) 11 (.int .i64 s))) (fun s w => I37 s w) (fun s w => μ38 s w) (0) _ (kp (kp (kp (kp (kn rfl) rfl) rfl) rfl) rfl) hI39 ?_
            rintro l36 g41 w40 hi42
            replace h := h l36 w40 hi42
            have hx : Ext w40 w40 := Chg.refl _
            change CW _ PP _ _ _ (upd (upd (upd (upd (nm g41 []) 0 (a0.v)) 8 (.pointer r28_0)) 10 (r35.v)) 11 (.int .i64 l36)) _
            refine cw_seq ?_
            refine cw_seq ?_
            refine cw_region ?_
            refine sl_v rfl (r_mv rfl) ?_
            refine sl_v rfl (r_mv rfl) ?_
            refine sl_v rfl (r_len_l (s := a0) rfl rfl Try.underlying46) ?_
            refine sl_v rfl (r_lss rfl rfl) ?_
            refine sl_nil ?_
            refine bcases (decide (l36 < ((a0.n : Nat) : Int))) (fun hb43 => ?_) (fun hb43 => ?_)
            · replace h := h.1 (of_decide_eq_true hb43)
              refine cw_ct rfl hb43 ?_
              refine cw_skip ?_
              refine cw_seq ?_
              refine cw_block ?_
              refine cw_seq ?_
              obtain ⟨k44, rfl, hk45, h⟩ := h
              obtain ⟨b46, o47, hb48, h⟩ := h
              obtain ⟨v49, hc50, h⟩ := h
              obtain ⟨hk51, h⟩ := h
              obtain ⟨b52, o53, hb54, h⟩ := h
              obtain ⟨v55, hc56, h⟩ := h
              refine cw_dw (S := fun w' => w'.cell? ⟨b46, o47 + k44 * 2, none⟩ = some (.string v49) ∧ w'.cell? ⟨b52, o53 + k44 * 1, none⟩ = some (v55.v) ∧ True) mo (fun w57 hd58 => ?_)
              replace hx := hx.tr (Ext.of_drew hd58)
              have hS : w57.cell? ⟨b46, o47 + k44 * 2, none⟩ = some (.string v49) ∧ w57.cell? ⟨b52, o53 + k44 * 1, none⟩ = some (v55.v) ∧ True := ⟨hx.cell hc50, hx.cell hc56, trivial⟩
              refine dw_t 0 1 rfl (by kernel_rfl) rfl hS (fun _ _ => (r_mv rfl)) ?_
              refine dw_t 1 3 rfl (by kernel_rfl) rfl hS (fun _ _ => (r_mv rfl)) ?_
              refine dw_t 2 7 rfl (by kernel_rfl) rfl hS (fun _ _ => (r_mv rfl)) ?_
              refine dw_t 3 15 rfl (by kernel_rfl) rfl hS (fun _ _ => (ia_sl_api_Word (s := a0) (j := k44) (o' := o47 + k44 * 2) rfl rfl hk45 hb48 rfl)) ?_
              refine dw_t 4 31 rfl (by kernel_rfl) rfl hS (fun _ _ => (fa_api_Word_0 (o' := o47 + k44 * 2) rfl rfl)) ?_
              refine dw_t 5 63 rfl (by kernel_rfl) rfl hS (fun _ hS => (ld_string rfl hS.1)) ?_
              refine dw_t 7 191 rfl (by kernel_rfl) rfl hS (fun _ _ => (r_mv rfl)) ?_
              refine dw_t 8 447 rfl (by kernel_rfl) rfl hS (fun _ _ => (r_mv rfl)) ?_
              refine dw_t 9 959 rfl (by kernel_rfl) rfl hS (fun _ _ => (ia_sl_sl_string (s := r35) (j := k44) (o' := o53 + k44 * 1) rfl rfl hk51 hb54 rfl)) ?_
              refine dw_t 10 1983 rfl (by kernel_rfl) rfl hS (fun _ hS => (ld_sl_string rfl hS.2.1)) ?_
              replace h := h _ hx
              replace hx : Ext w57 w57 := Chg.refl _
              refine dw_l 6 2047 rfl (by kernel_rfl) rfl (ok_call c_apply_Coder_Split rfl (Calls.mono h (fun e60 w61 hq62 => ?_)))
              clear h
              obtain ⟨r64, he63, h⟩ := hq62
              refine ⟨_, he63, ?_⟩
              replace hx : Ext w61 w61 := Chg.refl _
              obtain ⟨hq65, h⟩ := h
              obtain ⟨hq66, h⟩ := h
              replace hS : w61.cell? ⟨b46, o47 + k44 * 2, none⟩ = some (.string v49) ∧ w61.cell? ⟨b52, o53 + k44 * 1, none⟩ = some (v55.v) ∧ True := ⟨hq65, hq66, trivial⟩
              refine ⟨hS, ?_⟩
              refine dw_l 11 4095 rfl (by kernel_rfl) rfl (ok_call c_ref01_Texts rfl (Calls.mono h (fun e67 w68 hq69 => ?_)))
              clear h
              obtain ⟨r71, he70, h⟩ := hq69
              refine ⟨_, he70, ?_⟩
              replace hx : Ext w68 w68 := Chg.refl _
              obtain ⟨hq72, h⟩ := h
              obtain ⟨hq73, h⟩ := h
              replace hS : w68.cell? ⟨b46, o47 + k44 * 2, none⟩ = some (.string v49) ∧ w68.cell? ⟨b52, o53 + k44 * 1, none⟩ = some (v55.v) ∧ True := ⟨hq72, hq73, trivial⟩
              refine ⟨hS, ?_⟩
              refine dw_t 12 8191 rfl (by kernel_rfl) rfl hS (fun _ _ => (r_not rfl)) ?_
              refine dw_d (by kernel_rfl) ?_
              clear hS
              refine bcases (r71) (fun hb74 => ?_) (fun hb74 => ?_)
              · replace h := h.1 hb74
                refine cw_cf rfl (nt hb74) ?_
                refine cw_skip ?_
                refine cw_region ?_
                refine sl_v rfl (r_mv rfl) ?_
                obtain ⟨z75, hz75, h⟩ := h
                refine sl_v rfl (r_add rfl rfl hz75) ?_
                refine sl_v rfl (r_as rfl) ?_
                refine sl_nil ?_
                exact ⟨(z75), _, (kp (kp (kp (kp (kn rfl) rfl) rfl) rfl) rfl), h.1, h.2⟩
              · replace h := h.2 hb74
                refine cw_ct rfl (nf hb74) ?_
                refine cw_seq ?_
                refine cw_region ?_
                refine sl_v rfl (r_as rfl) ?_
                refine sl_nil ?_
                refine cw_ret ?_
                exact rs_1 (rt rfl) ⟨false, rfl, h⟩
            · replace h := h.2 (of_decide_eq_false hb43)
              refine cw_cf rfl hb43 ?_
              refine cw_exit ?_
              refine cw_seq ?_
              refine cw_region ?_
              refine sl_v rfl (r_as rfl) ?_
              refine sl_nil ?_
              refine cw_ret ?_
              exact rs_1 (rt rfl) ⟨true, rfl, h⟩
  · replace h := h.2 hb6
    refine cw_ct rfl (nf hb6) ?_
    refine cw_seq ?_
    refine cw_region ?_
    refine sl_v rfl (r_as rfl) ?_
    refine sl_nil ?_
    refine cw_ret ?_
    exact rs_1 (rt rfl) ⟨false, rfl, h⟩
end Go.Proofs.Ytchjcjocihckpaa.G
