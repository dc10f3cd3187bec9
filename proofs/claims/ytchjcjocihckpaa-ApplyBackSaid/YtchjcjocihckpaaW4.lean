/- What is to be shown of each function, and that it is enough. -/
import Derived.Test.YtchjcjocihckpaaT
set_option linter.unusedVariables false
namespace Go.Proofs.Ytchjcjocihckpaa.G
open Go Go.RowKit
def VC_ref21_Texts (a0 : Sl) (R : Sl → World → Prop) (w : World) : Prop :=
  ∃ (I3 : Sl → Int → World → Prop) (μ4 : Sl → Int → World → Nat), I3 (⟨none, 0, 0⟩ : Sl) 0 w ∧ ∀ (l1 : Sl) (l2 : Int) (w6 : World), I3 l1 l2 w6 → ((l2 < (256 : Int) → (∃ z10 : Int, z10 = IntKind.wrap .u8 l2 ∧ (∀ (b11 : Nat) (w12 : World), New w6 b11 (.cells #[.int .u8 z10] t_uint8 (0, 0)) w12 → (∃ l15 : List UInt8, Bys w12 (⟨some ⟨b11, 0, none⟩, 1, 1⟩ : Sl) l15 ∧ (∀ (b16 : Nat) (w17 : World), New w12 b16 (.cells #[.string (⟨l15.toArray⟩ : ByteArray)] t_string (0, 0)) w17 → (∃ xs23 : List Value, Own w17 t_string 1 l1 xs23 ∧ ∃ (b26 o27 : Nat) (news28 : List Value), (⟨some ⟨b16, 0, none⟩, 1, 1⟩ : Sl).b = some ⟨b26, o27, none⟩ ∧ Cells w17 b26 o27 news28 ∧ news28.length = 1 * 1 ∧ news28.all (·.oneCell') = true ∧ ((l1.n + 1) * 16 ≤ 140737488355328 ∧ l1.n + 1 ≤ maxLen) ∧ (∀ (s20 : Sl) (w19 : World), App w17 t_string 1 l1 xs23 1 news28 s20 w19 → (∃ z33 : Int, z33 = IntKind.wrap .i64 (l2 + 1) ∧ (I3 s20 z33 w19 ∧ μ4 s20 z33 w19 < μ4 l1 l2 w6))))))))) ∧ (¬ (l2 < (256 : Int)) → (∃ (I36 : Sl → Int → World → Prop) (μ37 : Sl → Int → World → Nat), I36 l1 0 w6 ∧ ∀ (l34 : Sl) (l35 : Int) (w39 : World), I36 l34 l35 w39 → ((l35 < ((a0.n : Nat) : Int) → (∃ k45 : Nat, l35 = ((k45 : Nat) : Int) ∧ k45 < a0.n ∧ (∃ (b47 o48 : Nat), a0.b = some ⟨b47, o48, none⟩ ∧ (∃ v50 : ByteArray, w39.cell? ⟨b47, o48 + k45 * 2, none⟩ = some (.string v50) ∧ (∃ v52 : ByteArray, w39.cell? ⟨b47, o48 + k45 * 2 + 1, none⟩ = some (.string v52) ∧ (v50.size + v52.size ≤ 9223372036854775807 ∧ (∃ K56 : Int → World → Prop, (∀ (j55 : Int) (w58 : World), K56 j55 w58 → (∃ k85 : Nat, j55 = ((k85 : Nat) : Int) ∧ ((0 ≤ k85 ∧ k85 ≤ l34.c) ∧ ((k85 ≤ l34.n ∧ l34.n ≤ l34.c) ∧ ((∀ w88 : World, Ext w58 w88 → (∀ (b90 : Nat) (w91 : World), New w88 b90 (.cells #[] t_string (0, 0)) w91 → ((∃ xs98 : List Value, Own w91 t_string 1 (⟨some ⟨b90, 0, none⟩, 0, 0⟩ : Sl) xs98 ∧ ∃ (b101 o102 : Nat) (news103 : List Value), (l34.sub 0 k85 1).b = some ⟨b101, o102, none⟩ ∧ Cells w91 b101 o102 news103 ∧ news103.length = (l34.sub 0 k85 1).n * 1 ∧ news103.all (·.oneCell') = true ∧ ((0 + (l34.sub 0 k85 1).n) * 16 ≤ 140737488355328 ∧ 0 + (l34.sub 0 k85 1).n ≤ maxLen) ∧ (∀ (s95 : Sl) (w94 : World), App w91 t_string 1 (⟨some ⟨b90, 0, none⟩, 0, 0⟩ : Sl) xs98 (l34.sub 0 k85 1).n news103 s95 w94 → (∀ (b108 : Nat) (w109 : World), New w94 b108 (.cells #[.string (v50 ++ v52)] t_string (0, 0)) w109 → (∃ xs115 : List Value, Own w109 t_string 1 s95 xs115 ∧ ∃ (b118 o119 : Nat) (news120 : List Value), (⟨some ⟨b108, 0, none⟩, 1, 1⟩ : Sl).b = some ⟨b118, o119, none⟩ ∧ Cells w109 b118 o119 news120 ∧ news120.length = 1 * 1 ∧ news120.all (·.oneCell') = true ∧ ((s95.n + 1) * 16 ≤ 140737488355328 ∧ s95.n + 1 ≤ maxLen) ∧ (∀ (s112 : Sl) (w111 : World), App w109 t_string 1 s95 xs115 1 news120 s112 w111 → (∃ xs129 : List Value, Own w111 t_string 1 s112 xs129 ∧ ∃ (b132 o133 : Nat) (news134 : List Value), (l34.sub k85 l34.n 1).b = some ⟨b132, o133, none⟩ ∧ Cells w111 b132 o133 news134 ∧ news134.length = (l34.sub k85 l34.n 1).n * 1 ∧ news134.all (·.oneCell') = true ∧ ((s112.n + (l34.sub k85 l34.n 1).n) * 16 ≤ 140737488355328 ∧ s112.n + (l34.sub k85 l34.n 1).n ≤ maxLen) ∧ (∀ (s126 : Sl) (w125 : World), App w111 t_string 1 s112 xs129 (l34.sub k85 l34.n 1).n news134 s126 w125 → (∃ z139 : Int, z139 = IntKind.wrap .i64 (((k45 : Nat) : Int) + 1) ∧ (I36 s126 z139 w125 ∧ μ37 s126 z139 w125 < μ37 l34 l35 w39))))))))) ∧ (∀ (b140 : Nat) (w141 : World), New w91 b140 (.cells #[.string (v50 ++ v52)] t_string (0, 0)) w141 → (∃ xs147 : List Value, Own w141 t_string 1 (⟨some ⟨b90, 0, none⟩, 0, 0⟩ : Sl) xs147 ∧ ∃ (b150 o151 : Nat) (news152 : List Value), (l34.sub 0 k85 1).b = some ⟨b150, o151, none⟩ ∧ Cells w141 b150 o151 news152 ∧ news152.length = (l34.sub 0 k85 1).n * 1 ∧ news152.all (·.oneCell') = true ∧ ((0 + (l34.sub 0 k85 1).n) * 16 ≤ 140737488355328 ∧ 0 + (l34.sub 0 k85 1).n ≤ maxLen) ∧ (∀ (s144 : Sl) (w143 : World), App w141 t_string 1 (⟨some ⟨b90, 0, none⟩, 0, 0⟩ : Sl) xs147 (l34.sub 0 k85 1).n news152 s144 w143 → (∃ xs161 : List Value, Own w143 t_string 1 s144 xs161 ∧ ∃ (b164 o165 : Nat) (news166 : List Value), (⟨some ⟨b140, 0, none⟩, 1, 1⟩ : Sl).b = some ⟨b164, o165, none⟩ ∧ Cells w143 b164 o165 news166 ∧ news166.length = 1 * 1 ∧ news166.all (·.oneCell') = true ∧ ((s144.n + 1) * 16 ≤ 140737488355328 ∧ s144.n + 1 ≤ maxLen) ∧ (∀ (s158 : Sl) (w157 : World), App w143 t_string 1 s144 xs161 1 news166 s158 w157 → (∃ xs175 : List Value, Own w157 t_string 1 s158 xs175 ∧ ∃ (b178 o179 : Nat) (news180 : List Value), (l34.sub k85 l34.n 1).b = some ⟨b178, o179, none⟩ ∧ Cells w157 b178 o179 news180 ∧ news180.length = (l34.sub k85 l34.n 1).n * 1 ∧ news180.all (·.oneCell') = true ∧ ((s158.n + (l34.sub k85 l34.n 1).n) * 16 ≤ 140737488355328 ∧ s158.n + (l34.sub k85 l34.n 1).n ≤ maxLen) ∧ (∀ (s172 : Sl) (w171 : World), App w157 t_string 1 s158 xs175 (l34.sub k85 l34.n 1).n news180 s172 w171 → (∃ z185 : Int, z185 = IntKind.wrap .i64 (((k45 : Nat) : Int) + 1) ∧ (I36 s172 z185 w171 ∧ μ37 s172 z185 w171 < μ37 l34 l35 w39)))))))))))) ∧ (∀ w88 : World, Ext w58 w88 → (∀ (b186 : Nat) (w187 : World), New w88 b186 (.cells #[.string (v50 ++ v52)] t_string (0, 0)) w187 → (∀ (b190 : Nat) (w191 : World), New w187 b190 (.cells #[] t_string (0, 0)) w191 → (∃ xs197 : List Value, Own w191 t_string 1 (⟨some ⟨b190, 0, none⟩, 0, 0⟩ : Sl) xs197 ∧ ∃ (b200 o201 : Nat) (news202 : List Value), (l34.sub 0 k85 1).b = some ⟨b200, o201, none⟩ ∧ Cells w191 b200 o201 news202 ∧ news202.length = (l34.sub 0 k85 1).n * 1 ∧ news202.all (·.oneCell') = true ∧ ((0 + (l34.sub 0 k85 1).n) * 16 ≤ 140737488355328 ∧ 0 + (l34.sub 0 k85 1).n ≤ maxLen) ∧ (∀ (s194 : Sl) (w193 : World), App w191 t_string 1 (⟨some ⟨b190, 0, none⟩, 0, 0⟩ : Sl) xs197 (l34.sub 0 k85 1).n news202 s194 w193 → (∃ xs211 : List Value, Own w193 t_string 1 s194 xs211 ∧ ∃ (b214 o215 : Nat) (news216 : List Value), (⟨some ⟨b186, 0, none⟩, 1, 1⟩ : Sl).b = some ⟨b214, o215, none⟩ ∧ Cells w193 b214 o215 news216 ∧ news216.length = 1 * 1 ∧ news216.all (·.oneCell') = true ∧ ((s194.n + 1) * 16 ≤ 140737488355328 ∧ s194.n + 1 ≤ maxLen) ∧ (∀ (s208 : Sl) (w207 : World), App w193 t_string 1 s194 xs211 1 news216 s208 w207 → (∃ xs225 : List Value, Own w207 t_string 1 s208 xs225 ∧ ∃ (b228 o229 : Nat) (news230 : List Value), (l34.sub k85 l34.n 1).b = some ⟨b228, o229, none⟩ ∧ Cells w207 b228 o229 news230 ∧ news230.length = (l34.sub k85 l34.n 1).n * 1 ∧ news230.all (·.oneCell') = true ∧ ((s208.n + (l34.sub k85 l34.n 1).n) * 16 ≤ 140737488355328 ∧ s208.n + (l34.sub k85 l34.n 1).n ≤ maxLen) ∧ (∀ (s222 : Sl) (w221 : World), App w207 t_string 1 s208 xs225 (l34.sub k85 l34.n 1).n news230 s222 w221 → (∃ z235 : Int, z235 = IntKind.wrap .i64 (((k45 : Nat) : Int) + 1) ∧ (I36 s222 z235 w221 ∧ μ37 s222 z235 w221 < μ37 l34 l35 w39)))))))))))))))) ∧ (∀ w43 : World, Ext w39 w43 → (∃ (I63 : Int → World → Prop) (μ64 : Int → World → Nat), I63 ((l34.n : Nat) : Int) w43 ∧ ∀ (l62 : Int) (w66 : World), I63 l62 w66 → (((0 : Int) < l62 → (∃ z70 : Int, z70 = IntKind.wrap .i64 (l62 - 1) ∧ (∃ k71 : Nat, z70 = ((k71 : Nat) : Int) ∧ k71 < l34.n ∧ (∃ (b73 o74 : Nat), l34.b = some ⟨b73, o74, none⟩ ∧ (∃ v76 : ByteArray, w66.cell? ⟨b73, o74 + k71 * 1, none⟩ = some (.string v76) ∧ (Calls PP n_ref01_Less #[.string (v50 ++ v52), .string v76] w66 (fun e w79 => ∃ r82 : Bool, e = .returned (.bool r82) ∧ ((r82 = true → (∃ z84 : Int, z84 = IntKind.wrap .i64 (l62 - 1) ∧ (I63 z84 w79 ∧ μ64 z84 w79 < μ64 l62 w66))) ∧ (r82 = false → (K56 l62 w79)))))))))) ∧ (¬ ((0 : Int) < l62) → (K56 l62 w66)))))))))))) ∧ (¬ (l35 < ((a0.n : Nat) : Int)) → (R l34 w39))))))
set_option maxRecDepth 100000 in
theorem vc_ref21_Texts {a0 : Sl} {R : Sl → World → Prop} {w : World} (h : VC_ref21_Texts a0 R w) : Calls PP n_ref21_Texts #[a0.v] w fun e w' => ∃ r0 : Sl, e = .returned (r0.v) ∧ R r0 w' := by
  refine Calls.mono (calls_of_cw (n := 64) (rs := #[.tmp 2]) (args := [a0.v]) (R := fun v w' => ∃ r0 : Sl, v = r0.v ∧ R r0 w') Try.func22 rfl rfl (Nat.le_of_ble_eq_true rfl) rfl ?_) ?_
  case refine_2 => rintro e w' ⟨v, rfl, hr⟩; obtain ⟨r0, rfl, hr⟩ := hr; exact ⟨r0, rfl, hr⟩
  have hx : Ext w w := Chg.refl _
  unfold VC_ref21_Texts at h
  refine cw_seq ?_
  refine cw_region ?_
  refine sl_v rfl (r_as rfl) ?_
  refine sl_nil ?_
  refine cw_seq ?_
  refine cw_region ?_
  refine sl_v rfl (r_as rfl) ?_
  refine sl_nil ?_
  refine cw_seq ?_
  refine cw_seq ?_
  refine cw_region ?_
  refine sl_v rfl (r_as rfl) ?_
  refine sl_nil ?_
  refine cw_block ?_
  obtain ⟨I3, μ4, hI5, h⟩ := h
  refine cw_loop (σ := Sl × Int) (fun s g => (upd (upd (upd (nm g []) 0 (a0.v)) 3 (s.1.v)) 4 (.int .i64 s.2))) (fun s w => I3 s.1 s.2 w) (fun s w => μ4 s.1 s.2 w) ((⟨none, 0, 0⟩ : Sl), 0) _ (kp (kp (kp (kn rfl) rfl) rfl) rfl) hI5 ?_
  rintro ⟨l1, l2⟩ g7 w6 hi8
  replace h := h l1 l2 w6 hi8
  have hx : Ext w6 w6 := Chg.refl _
  change CW _ PP _ _ _ (upd (upd (upd (nm g7 []) 0 (a0.v)) 3 (l1.v)) 4 (.int .i64 l2)) _
  refine cw_seq ?_
  refine cw_seq ?_
  refine cw_region ?_
  refine sl_v rfl (r_mv rfl) ?_
  refine sl_v rfl (r_lss rfl rfl) ?_
  refine sl_nil ?_
  refine bcases (decide (l2 < (256 : Int))) (fun hb9 => ?_) (fun hb9 => ?_)
  · replace h := h.1 (of_decide_eq_true hb9)
    refine cw_ct rfl hb9 ?_
    refine cw_skip ?_
    refine cw_seq ?_
    refine cw_block ?_
    refine cw_region ?_
    refine sl_v rfl (r_mv rfl) ?_
    refine sl_v rfl (r_mv rfl) ?_
    obtain ⟨z10, hz10, h⟩ := h
    refine sl_v rfl (r_ci (z := z10) rfl Try.underlying3 Try.underlying5 hz10) ?_
    refine sl_op rfl (bs_sl_uint8 (len := 1) (vs := [(0, .int .u8 z10)]) (cs := #[.int .u8 z10]) (by decide) rfl rfl (fun b11 w12 hN13 => ?_))
    replace h := h b11 w12 hN13
    replace hx : Ext w12 w12 := Chg.refl _
    obtain ⟨l15, hby14, h⟩ := h
    refine sl_v rfl (r_b2s (s := (⟨some ⟨b11, 0, none⟩, 1, 1⟩ : Sl)) Try.underlying76 Try.underlying5 Try.underlying9 rfl hby14) ?_
    refine sl_op rfl (bs_sl_string (len := 1) (vs := [(0, .string (⟨l15.toArray⟩ : ByteArray))]) (cs := #[.string (⟨l15.toArray⟩ : ByteArray)]) (by decide) rfl rfl (fun b16 w17 hN18 => ?_))
    replace h := h b16 w17 hN18
    replace hx : Ext w17 w17 := Chg.refl _
    obtain ⟨xs23, ho24, b26, o27, news28, hyb29, hc30, hl31, h132, hb25, h⟩ := h
    refine sl_op rfl (ap_sl_string (s := l1) (xs := xs23) (m := 1) (news := news28) rfl (congrArg (fun z => Value.slice z (⟨some ⟨b16, 0, none⟩, 1, 1⟩ : Sl).n (⟨some ⟨b16, 0, none⟩, 1, 1⟩ : Sl).c) hyb29) hx ho24 hc30 hl31 h132 hb25 (fun s20 w19 ha21 hc22 => ?_))
    replace h := h s20 w19 ha21
    replace hx : Ext w19 w19 := Chg.refl _
    refine sl_v rfl (r_as rfl) ?_
    refine sl_nil ?_
    refine cw_region ?_
    refine sl_v rfl (r_mv rfl) ?_
    obtain ⟨z33, hz33, h⟩ := h
    refine sl_v rfl (r_add rfl rfl hz33) ?_
    refine sl_v rfl (r_as rfl) ?_
    refine sl_nil ?_
    exact ⟨(s20, z33), _, (kp (kp (kp (kn rfl) rfl) rfl) rfl), h.1, h.2⟩
  · replace h := h.2 (of_decide_eq_false hb9)
    refine cw_cf rfl hb9 ?_
    refine cw_exit ?_
    refine cw_seq ?_
    refine cw_seq ?_
    refine cw_region ?_
    refine sl_v rfl (r_as rfl) ?_
    refine sl_nil ?_
    refine cw_block ?_
    obtain ⟨I36, μ37, hI38, h⟩ := h
    refine cw_loop (σ := Sl × Int) (fun s g => (upd (upd (upd (nm g []) 0 (a0.v)) 3 (s.1.v)) 5 (.int .i64 s.2))) (fun s w => I36 s.1 s.2 w) (fun s w => μ37 s.1 s.2 w) (l1, 0) _ (kp (kp (kp (kn rfl) rfl) rfl) rfl) hI38 ?_
    rintro ⟨l34, l35⟩ g40 w39 hi41
    replace h := h l34 l35 w39 hi41
    have hx : Ext w39 w39 := Chg.refl _
    change CW _ PP _ _ _ (upd (upd (upd (nm g40 []) 0 (a0.v)) 3 (l34.v)) 5 (.int .i64 l35)) _
    refine cw_seq ?_
    refine cw_seq ?_
    refine cw_region ?_
    refine sl_v rfl (r_mv rfl) ?_
    refine sl_v rfl (r_mv rfl) ?_
    refine sl_v rfl (r_len_l (s := a0) rfl rfl Try.underlying22) ?_
    refine sl_v rfl (r_lss rfl rfl) ?_
    refine sl_nil ?_
    refine bcases (decide (l35 < ((a0.n : Nat) : Int))) (fun hb42 => ?_) (fun hb42 => ?_)
    · replace h := h.1 (of_decide_eq_true hb42)
      refine cw_ct rfl hb42 ?_
      refine cw_skip ?_
      refine cw_seq ?_
      refine cw_block ?_
      refine cw_seq ?_
      refine cw_still mo (by kernel_rfl) (fun w43 hd44 => ?_)
      replace hx := hx.tr (Ext.of_drew hd44)
      refine st_v rfl (r_mv rfl) ?_
      refine st_v rfl (r_mv rfl) ?_
      obtain ⟨k45, rfl, hk46, h⟩ := h
      obtain ⟨b47, o48, hb49, h⟩ := h
      refine st_v rfl (ia_sl_api_Merge (s := a0) (j := k45) (o' := o48 + k45 * 2) rfl rfl hk46 hb49 rfl) ?_
      refine st_v rfl (fa_api_Merge_0 (o' := o48 + k45 * 2) rfl rfl) ?_
      obtain ⟨v50, hc51, h⟩ := h
      refine st_v rfl (ld_string rfl (hx.cell hc51)) ?_
      refine st_v rfl (r_mv rfl) ?_
      refine st_v rfl (r_mv rfl) ?_
      refine st_v rfl (ia_sl_api_Merge (s := a0) (j := k45) (o' := o48 + k45 * 2) rfl rfl hk46 hb49 rfl) ?_
      refine st_v rfl (fa_api_Merge_1 (o' := o48 + k45 * 2 + 1) rfl rfl) ?_
      obtain ⟨v52, hc53, h⟩ := h
      refine st_v rfl (ld_string rfl (hx.cell hc53)) ?_
      obtain ⟨hs54, h⟩ := h
      refine st_v rfl (s_cat rfl rfl hs54) ?_
      refine st_v rfl (r_as rfl) ?_
      refine st_nil ?_
      refine cw_seq ?_
      refine cw_region ?_
      refine sl_v rfl (r_mv rfl) ?_
      refine sl_v rfl (r_len_l (s := l34) rfl rfl Try.underlying37) ?_
      refine sl_v rfl (r_as rfl) ?_
      refine sl_nil ?_
      obtain ⟨K56, hK57, h⟩ := h
      refine cw_mid (fun f w => ∃ (g : Env) (j55 : Int), f = (upd (upd (upd (upd (upd (nm g []) 0 (a0.v)) 3 (l34.v)) 5 (.int .i64 ((k45 : Nat) : Int))) 6 (.string (v50 ++ v52))) 7 (.int .i64 j55)) ∧ K56 j55 w) ?_ (fun _ w58 hM60 => ?_)
      ·
        refine cw_block ?_
        replace h := h _ hx
        replace hx : Ext w43 w43 := Chg.refl _
        obtain ⟨I63, μ64, hI65, h⟩ := h
        refine cw_loop (σ := Int) (fun s g => (upd (upd (upd (upd (upd (nm g []) 0 (a0.v)) 3 (l34.v)) 5 (.int .i64 ((k45 : Nat) : Int))) 6 (.string (v50 ++ v52))) 7 (.int .i64 s))) (fun s w => I63 s w) (fun s w => μ64 s w) (((l34.n : Nat) : Int)) _ (kp (kp (kp (kp (kp (kn rfl) rfl) rfl) rfl) rfl) rfl) hI65 ?_
        rintro l62 g67 w66 hi68
        replace h := h l62 w66 hi68
        have hx : Ext w66 w66 := Chg.refl _
        change CW _ PP _ _ _ (upd (upd (upd (upd (upd (nm g67 []) 0 (a0.v)) 3 (l34.v)) 5 (.int .i64 ((k45 : Nat) : Int))) 6 (.string (v50 ++ v52))) 7 (.int .i64 l62)) _
        refine cw_seq ?_
        refine cw_seq ?_
        refine cw_region ?_
        refine sl_v rfl (r_mv rfl) ?_
        refine sl_v rfl (r_gtr rfl rfl) ?_
        refine sl_v rfl (r_mv rfl) ?_
        refine bcases (decide ((0 : Int) < l62)) (fun hb69 => ?_) (fun hb69 => ?_)
        · replace h := h.1 (of_decide_eq_true hb69)
          refine sl_vg rfl rfl rfl hb69 (r_mv rfl) ?_
          refine sl_vg rfl rfl rfl hb69 (r_mv rfl) ?_
          refine sl_vg rfl rfl rfl hb69 (r_mv rfl) ?_
          obtain ⟨z70, hz70, h⟩ := h
          refine sl_vg rfl rfl rfl hb69 (r_sub rfl rfl hz70) ?_
          obtain ⟨k71, rfl, hk72, h⟩ := h
          obtain ⟨b73, o74, hb75, h⟩ := h
          refine sl_vg rfl rfl rfl hb69 (ia_sl_string (s := l34) (j := k71) (o' := o74 + k71 * 1) rfl rfl hk72 hb75 rfl) ?_
          obtain ⟨v76, hc77, h⟩ := h
          refine sl_vg rfl rfl rfl hb69 (ld_string rfl hc77) ?_
          refine sl_g rfl rfl rfl hb69 (ok_call c_ref01_Less rfl (Calls.mono h (fun e78 w79 hq80 => ?_)))
          clear h
          obtain ⟨r82, he81, h⟩ := hq80
          refine ⟨_, he81, ?_⟩
          replace hx : Ext w79 w79 := Chg.refl _
          refine sl_v rfl (r_pt rfl hb69 rfl) ?_
          refine sl_nil ?_
          refine bcases (r82) (fun hb83 => ?_) (fun hb83 => ?_)
          · replace h := h.1 hb83
            refine cw_ct rfl hb83 ?_
            refine cw_skip ?_
            refine cw_block ?_
            refine cw_region ?_
            refine sl_v rfl (r_mv rfl) ?_
            obtain ⟨z84, hz84, h⟩ := h
            refine sl_v rfl (r_sub rfl rfl hz84) ?_
            refine sl_v rfl (r_as rfl) ?_
            refine sl_nil ?_
            exact ⟨(z84), _, (kp (kp (kp (kp (kp (kn rfl) rfl) rfl) rfl) rfl) rfl), h.1, h.2⟩
          · replace h := h.2 hb83
            refine cw_cf rfl hb83 ?_
            refine cw_exit ?_
            exact ⟨_, l62, (kp (kp (kp (kp (kp (kn rfl) rfl) rfl) rfl) rfl) rfl), h⟩
        · replace h := h.2 (of_decide_eq_false hb69)
          refine sl_no rfl rfl rfl hb69 ?_
          refine sl_no rfl rfl rfl hb69 ?_
          refine sl_no rfl rfl rfl hb69 ?_
          refine sl_no rfl rfl rfl hb69 ?_
          refine sl_no rfl rfl rfl hb69 ?_
          refine sl_no rfl rfl rfl hb69 ?_
          refine sl_no rfl rfl rfl hb69 ?_
          refine sl_v rfl (r_pf rfl hb69 rfl) ?_
          refine sl_nil ?_
          refine cw_cf rfl rfl ?_
          refine cw_exit ?_
          exact ⟨_, l62, (kp (kp (kp (kp (kp (kn rfl) rfl) rfl) rfl) rfl) rfl), h⟩
      ·
        obtain ⟨g59, j55, rfl, hM60⟩ := hM60
        replace h := hK57 j55 w58 hM60
        have hx : Ext w58 w58 := Chg.refl _
        obtain ⟨k85, rfl, h⟩ := h
        obtain ⟨hr86, h⟩ := h
        obtain ⟨hr87, h⟩ := h
        refine cw_dw (S := fun w' => True) mo (fun w88 hd89 => ?_)
        replace hx := hx.tr (Ext.of_drew hd89)
        have hS : True := trivial
        refine dw_t 1 2 rfl (by kernel_rfl) rfl hS (fun _ _ => (r_mv rfl)) ?_
        refine dw_t 2 6 rfl (by kernel_rfl) rfl hS (fun _ _ => (r_mv rfl)) ?_
        refine dw_t 3 14 rfl (by kernel_rfl) rfl hS (fun _ _ => (sl_sl_string (s := l34) (l := 0) (h := k85) rfl rfl rfl (fun _ => rfl) (by intro h; cases h) hr86)) ?_
        refine dw_t 5 46 rfl (by kernel_rfl) rfl hS (fun _ _ => (r_mv rfl)) ?_
        refine dw_t 8 302 rfl (by kernel_rfl) rfl hS (fun _ _ => (r_mv rfl)) ?_
        refine dw_t 9 814 rfl (by kernel_rfl) rfl hS (fun _ _ => (r_mv rfl)) ?_
        refine dw_t 10 1838 rfl (by kernel_rfl) rfl hS (fun _ _ => (sl_sl_string (s := l34) (l := k85) (h := l34.n) rfl rfl rfl (by intro h; cases h) (fun _ => rfl) hr87)) ?_
        refine dw_two 0 6 1839 1902 rfl rfl (by kernel_rfl) rfl rfl ?_ ?_
        · replace h := h.1
          replace h := h _ hx
          replace hx : Ext w88 w88 := Chg.refl _
          refine bs_sl_string (len := 0) (vs := []) (cs := #[]) (by decide) rfl rfl (fun b90 w91 hN92 => ?_)
          replace h := h b90 w91 hN92
          replace hx : Ext w91 w91 := Chg.refl _
          replace hS : True := trivial
          refine ⟨hS, ?_⟩
          refine dw_two 4 6 1855 1903 rfl rfl (by kernel_rfl) rfl rfl ?_ ?_
          · replace h := h.1
            obtain ⟨xs98, ho99, b101, o102, news103, hyb104, hc105, hl106, h1107, hb100, h⟩ := h
            refine ap_sl_string (s := (⟨some ⟨b90, 0, none⟩, 0, 0⟩ : Sl)) (xs := xs98) (m := (l34.sub 0 k85 1).n) (news := news103) rfl (congrArg (fun z => Value.slice z (l34.sub 0 k85 1).n (l34.sub 0 k85 1).c) hyb104) hx ho99 hc105 hl106 h1107 hb100 (fun s95 w94 ha96 hc97 => ?_)
            replace h := h s95 w94 ha96
            replace hx : Ext w94 w94 := Chg.refl _
            replace hS : True := trivial
            refine ⟨hS, ?_⟩
            refine dw_l 6 1919 rfl (by kernel_rfl) rfl (bs_sl_string (len := 1) (vs := [(0, .string (v50 ++ v52))]) (cs := #[.string (v50 ++ v52)]) (by decide) rfl rfl (fun b108 w109 hN110 => ?_))
            replace h := h b108 w109 hN110
            replace hx : Ext w109 w109 := Chg.refl _
            replace hS : True := trivial
            refine ⟨hS, ?_⟩
            obtain ⟨xs115, ho116, b118, o119, news120, hyb121, hc122, hl123, h1124, hb117, h⟩ := h
            refine dw_l 7 2047 rfl (by kernel_rfl) rfl (ap_sl_string (s := s95) (xs := xs115) (m := 1) (news := news120) rfl (congrArg (fun z => Value.slice z (⟨some ⟨b108, 0, none⟩, 1, 1⟩ : Sl).n (⟨some ⟨b108, 0, none⟩, 1, 1⟩ : Sl).c) hyb121) hx ho116 hc122 hl123 h1124 hb117 (fun s112 w111 ha113 hc114 => ?_))
            replace h := h s112 w111 ha113
            replace hx : Ext w111 w111 := Chg.refl _
            replace hS : True := trivial
            refine ⟨hS, ?_⟩
            obtain ⟨xs129, ho130, b132, o133, news134, hyb135, hc136, hl137, h1138, hb131, h⟩ := h
            refine dw_l 11 4095 rfl (by kernel_rfl) rfl (ap_sl_string (s := s112) (xs := xs129) (m := (l34.sub k85 l34.n 1).n) (news := news134) rfl (congrArg (fun z => Value.slice z (l34.sub k85 l34.n 1).n (l34.sub k85 l34.n 1).c) hyb135) hx ho130 hc136 hl137 h1138 hb131 (fun s126 w125 ha127 hc128 => ?_))
            replace h := h s126 w125 ha127
            replace hx : Ext w125 w125 := Chg.refl _
            replace hS : True := trivial
            refine ⟨hS, ?_⟩
            refine dw_t 12 8191 rfl (by kernel_rfl) rfl hS (fun _ _ => (r_as rfl)) ?_
            refine dw_d (by kernel_rfl) ?_
            clear hS
            refine cw_region ?_
            refine sl_v rfl (r_mv rfl) ?_
            obtain ⟨z139, hz139, h⟩ := h
            refine sl_v rfl (r_add rfl rfl hz139) ?_
            refine sl_v rfl (r_as rfl) ?_
            refine sl_nil ?_
            exact ⟨(s126, z139), _, (kp (kp (kp (kn rfl) rfl) rfl) rfl), h.1, h.2⟩
          · replace h := h.2
            refine bs_sl_string (len := 1) (vs := [(0, .string (v50 ++ v52))]) (cs := #[.string (v50 ++ v52)]) (by decide) rfl rfl (fun b140 w141 hN142 => ?_)
            replace h := h b140 w141 hN142
            replace hx : Ext w141 w141 := Chg.refl _
            replace hS : True := trivial
            refine ⟨hS, ?_⟩
            obtain ⟨xs147, ho148, b150, o151, news152, hyb153, hc154, hl155, h1156, hb149, h⟩ := h
            refine dw_l 4 1919 rfl (by kernel_rfl) rfl (ap_sl_string (s := (⟨some ⟨b90, 0, none⟩, 0, 0⟩ : Sl)) (xs := xs147) (m := (l34.sub 0 k85 1).n) (news := news152) rfl (congrArg (fun z => Value.slice z (l34.sub 0 k85 1).n (l34.sub 0 k85 1).c) hyb153) hx ho148 hc154 hl155 h1156 hb149 (fun s144 w143 ha145 hc146 => ?_))
            replace h := h s144 w143 ha145
            replace hx : Ext w143 w143 := Chg.refl _
            replace hS : True := trivial
            refine ⟨hS, ?_⟩
            obtain ⟨xs161, ho162, b164, o165, news166, hyb167, hc168, hl169, h1170, hb163, h⟩ := h
            refine dw_l 7 2047 rfl (by kernel_rfl) rfl (ap_sl_string (s := s144) (xs := xs161) (m := 1) (news := news166) rfl (congrArg (fun z => Value.slice z (⟨some ⟨b140, 0, none⟩, 1, 1⟩ : Sl).n (⟨some ⟨b140, 0, none⟩, 1, 1⟩ : Sl).c) hyb167) hx ho162 hc168 hl169 h1170 hb163 (fun s158 w157 ha159 hc160 => ?_))
            replace h := h s158 w157 ha159
            replace hx : Ext w157 w157 := Chg.refl _
            replace hS : True := trivial
            refine ⟨hS, ?_⟩
            obtain ⟨xs175, ho176, b178, o179, news180, hyb181, hc182, hl183, h1184, hb177, h⟩ := h
            refine dw_l 11 4095 rfl (by kernel_rfl) rfl (ap_sl_string (s := s158) (xs := xs175) (m := (l34.sub k85 l34.n 1).n) (news := news180) rfl (congrArg (fun z => Value.slice z (l34.sub k85 l34.n 1).n (l34.sub k85 l34.n 1).c) hyb181) hx ho176 hc182 hl183 h1184 hb177 (fun s172 w171 ha173 hc174 => ?_))
            replace h := h s172 w171 ha173
            replace hx : Ext w171 w171 := Chg.refl _
            replace hS : True := trivial
            refine ⟨hS, ?_⟩
            refine dw_t 12 8191 rfl (by kernel_rfl) rfl hS (fun _ _ => (r_as rfl)) ?_
            refine dw_d (by kernel_rfl) ?_
            clear hS
            refine cw_region ?_
            refine sl_v rfl (r_mv rfl) ?_
            obtain ⟨z185, hz185, h⟩ := h
            refine sl_v rfl (r_add rfl rfl hz185) ?_
            refine sl_v rfl (r_as rfl) ?_
            refine sl_nil ?_
            exact ⟨(s172, z185), _, (kp (kp (kp (kn rfl) rfl) rfl) rfl), h.1, h.2⟩
        · replace h := h.2
          replace h := h _ hx
          replace hx : Ext w88 w88 := Chg.refl _
          refine bs_sl_string (len := 1) (vs := [(0, .string (v50 ++ v52))]) (cs := #[.string (v50 ++ v52)]) (by decide) rfl rfl (fun b186 w187 hN188 => ?_)
          replace h := h b186 w187 hN188
          replace hx : Ext w187 w187 := Chg.refl _
          replace hS : True := trivial
          refine ⟨hS, ?_⟩
          refine dw_l 0 1903 rfl (by kernel_rfl) rfl (bs_sl_string (len := 0) (vs := []) (cs := #[]) (by decide) rfl rfl (fun b190 w191 hN192 => ?_))
          replace h := h b190 w191 hN192
          replace hx : Ext w191 w191 := Chg.refl _
          replace hS : True := trivial
          refine ⟨hS, ?_⟩
          obtain ⟨xs197, ho198, b200, o201, news202, hyb203, hc204, hl205, h1206, hb199, h⟩ := h
          refine dw_l 4 1919 rfl (by kernel_rfl) rfl (ap_sl_string (s := (⟨some ⟨b190, 0, none⟩, 0, 0⟩ : Sl)) (xs := xs197) (m := (l34.sub 0 k85 1).n) (news := news202) rfl (congrArg (fun z => Value.slice z (l34.sub 0 k85 1).n (l34.sub 0 k85 1).c) hyb203) hx ho198 hc204 hl205 h1206 hb199 (fun s194 w193 ha195 hc196 => ?_))
          replace h := h s194 w193 ha195
          replace hx : Ext w193 w193 := Chg.refl _
          replace hS : True := trivial
          refine ⟨hS, ?_⟩
          obtain ⟨xs211, ho212, b214, o215, news216, hyb217, hc218, hl219, h1220, hb213, h⟩ := h
          refine dw_l 7 2047 rfl (by kernel_rfl) rfl (ap_sl_string (s := s194) (xs := xs211) (m := 1) (news := news216) rfl (congrArg (fun z => Value.slice z (⟨some ⟨b186, 0, none⟩, 1, 1⟩ : Sl).n (⟨some ⟨b186, 0, none⟩, 1, 1⟩ : Sl).c) hyb217) hx ho212 hc218 hl219 h1220 hb213 (fun s208 w207 ha209 hc210 => ?_))
          replace h := h s208 w207 ha209
          replace hx : Ext w207 w207 := Chg.refl _
          replace hS : True := trivial
          refine ⟨hS, ?_⟩
          obtain ⟨xs225, ho226, b228, o229, news230, hyb231, hc232, hl233, h1234, hb227, h⟩ := h
          refine dw_l 11 4095 rfl (by kernel_rfl) rfl (ap_sl_string (s := s208) (xs := xs225) (m := (l34.sub k85 l34.n 1).n) (news := news230) rfl (congrArg (fun z => Value.slice z (l34.sub k85 l34.n 1).n (l34.sub k85 l34.n 1).c) hyb231) hx ho226 hc232 hl233 h1234 hb227 (fun s222 w221 ha223 hc224 => ?_))
          replace h := h s222 w221 ha223
          replace hx : Ext w221 w221 := Chg.refl _
          replace hS : True := trivial
          refine ⟨hS, ?_⟩
          refine dw_t 12 8191 rfl (by kernel_rfl) rfl hS (fun _ _ => (r_as rfl)) ?_
          refine dw_d (by kernel_rfl) ?_
          clear hS
          refine cw_region ?_
          refine sl_v rfl (r_mv rfl) ?_
          obtain ⟨z235, hz235, h⟩ := h
          refine sl_v rfl (r_add rfl rfl hz235) ?_
          refine sl_v rfl (r_as rfl) ?_
          refine sl_nil ?_
          exact ⟨(s222, z235), _, (kp (kp (kp (kn rfl) rfl) rfl) rfl), h.1, h.2⟩
    · replace h := h.2 (of_decide_eq_false hb42)
      refine cw_cf rfl hb42 ?_
      refine cw_exit ?_
      refine cw_seq ?_
      refine cw_region ?_
      refine sl_v rfl (r_mv rfl) ?_
      refine sl_v rfl (r_as rfl) ?_
      refine sl_nil ?_
      refine cw_ret ?_
      exact rs_1 (rt rfl) ⟨l34, rfl, h⟩

def VC_vocab_Vocab_Texts (a0 : Option Addr) (R : Value → World → Prop) (w : World) : Prop :=
  (a0 = none → (R (.func (.func 44) #[] #[]) w)) ∧ (¬ (a0 = none) → (∃ (b2 o3 : Nat), a0 = some ⟨b2, o3, none⟩ ∧ (∃ v4 : Option Nat, w.cell? ⟨b2, o3, none⟩ = some (.map v4) ∧ (Calls PP n_maps_Keys_map_string_int_string_int #[.map v4] w (fun e w7 => ∃ r10 : Value, e = .returned (r10) ∧ (Calls PP n_slices_Sorted_string #[r10] w7 (fun e w12 => ∃ r15 : Sl, e = .returned (r15.v) ∧ (Calls PP n_slices_Values_string_string #[r15.v] w12 (fun e w17 => ∃ r20 : Value, e = .returned (r20) ∧ (R r20 w17))))))))))
set_option maxRecDepth 100000 in
theorem vc_vocab_Vocab_Texts {a0 : Option Addr} {R : Value → World → Prop} {w : World} (h : VC_vocab_Vocab_Texts a0 R w) : Calls PP n_vocab_Vocab_Texts #[.pointer a0] w fun e w' => ∃ r0 : Value, e = .returned (r0) ∧ R r0 w' := by
  refine Calls.mono (calls_of_cw (n := 12) (rs := #[.tmp 2]) (args := [.pointer a0]) (R := fun v w' => ∃ r0 : Value, v = r0 ∧ R r0 w') Try.func23 rfl rfl (Nat.le_of_ble_eq_true rfl) rfl ?_) ?_
  case refine_2 => rintro e w' ⟨v, rfl, r0, h0, hr⟩; exact ⟨r0, by rw [h0], hr⟩
  have hx : Ext w w := Chg.refl _
  unfold VC_vocab_Vocab_Texts at h
  refine cw_seq ?_
  refine cw_region ?_
  refine sl_v rfl (r_as rfl) ?_
  refine sl_nil ?_
  refine cw_seq ?_
  refine cw_seq ?_
  refine cw_region ?_
  refine sl_v rfl (r_mv rfl) ?_
  refine sl_v rfl (p_eqn rfl rfl Try.underlying25) ?_
  refine sl_nil ?_
  refine bcases (decide (a0 = none)) (fun hb1 => ?_) (fun hb1 => ?_)
  · replace h := h.1 (of_decide_eq_true hb1)
    refine cw_ct rfl hb1 ?_
    refine cw_seq ?_
    refine cw_region ?_
    refine sl_v rfl (r_as rfl) ?_
    refine sl_nil ?_
    refine cw_ret ?_
    exact rs_1 (rt rfl) ⟨.func (.func 44) #[] #[], rfl, h⟩
  · replace h := h.2 (of_decide_eq_false hb1)
    refine cw_cf rfl hb1 ?_
    refine cw_skip ?_
    refine cw_seq ?_
    refine cw_region ?_
    refine sl_v rfl (r_mv rfl) ?_
    obtain ⟨b2, o3, rfl, h⟩ := h
    refine sl_v rfl (r_nc rfl) ?_
    refine sl_v rfl (fa_vocab_Vocab_0 (o' := o3) rfl rfl) ?_
    obtain ⟨v4, hc5, h⟩ := h
    refine sl_v rfl (ld_map_string_int rfl hc5) ?_
    refine sl_op rfl (ok_call c_maps_Keys_map_string_int_string_int rfl (Calls.mono h (fun e6 w7 hq8 => ?_)))
    clear h
    obtain ⟨r10, he9, h⟩ := hq8
    refine ⟨_, he9, ?_⟩
    replace hx : Ext w7 w7 := Chg.refl _
    refine sl_op rfl (ok_call c_slices_Sorted_string rfl (Calls.mono h (fun e11 w12 hq13 => ?_)))
    clear h
    obtain ⟨r15, he14, h⟩ := hq13
    refine ⟨_, he14, ?_⟩
    replace hx : Ext w12 w12 := Chg.refl _
    refine sl_op rfl (ok_call c_slices_Values_string_string rfl (Calls.mono h (fun e16 w17 hq18 => ?_)))
    clear h
    obtain ⟨r20, he19, h⟩ := hq18
    refine ⟨_, he19, ?_⟩
    replace hx : Ext w17 w17 := Chg.refl _
    refine sl_v rfl (r_as rfl) ?_
    refine sl_nil ?_
    refine cw_ret ?_
    exact rs_1 (rt rfl) ⟨r20, rfl, h⟩

def VC_law20_awake (R : Bool → World → Prop) (w : World) : Prop :=
  ∀ (b1 : Nat) (w2 : World), New w b1 (.cells #[.string (⟨#[97]⟩ : ByteArray), .string (⟨#[98]⟩ : ByteArray), .string (⟨#[97, 98]⟩ : ByteArray), .string (⟨#[97, 98]⟩ : ByteArray)] t_api_Merge (0, 0)) w2 → (Calls PP n_apply_New #[.slice (some ⟨b1, 0, none⟩) 2 2] w2 (fun e w5 => ∃ r8_0 : Option Addr, ∃ r8_1 : Int, e = .returned (.tuple #[.pointer r8_0, .int .i64 r8_1]) ∧ ((r8_1 = (0 : Int) → (Calls PP n_apply_Coder_Encode #[.pointer r8_0, .string (⟨#[97, 98, 97, 98]⟩ : ByteArray)] w5 (fun e w11 => ∃ r14 : Sl, e = .returned (r14.v) ∧ (∀ (b15 : Nat) (w16 : World), New w11 b15 (.cells #[.int .i64 257] t_int (0, 0)) w16 → (Calls PP n_ref01_Ints #[r14.v, .slice (some ⟨b15, 0, none⟩) 1 1] w16 (fun e w19 => ∃ r22 : Bool, e = .returned (.bool r22) ∧ ((r22 = true → (Calls PP n_apply_Coder_Encode #[.pointer r8_0, .string (⟨#[97, 98, 97]⟩ : ByteArray)] w19 (fun e w25 => ∃ r28 : Sl, e = .returned (r28.v) ∧ (∀ (b29 : Nat) (w30 : World), New w25 b29 (.cells #[.int .i64 256, .int .i64 97] t_int (0, 0)) w30 → (Calls PP n_ref01_Ints #[r28.v, .slice (some ⟨b29, 0, none⟩) 2 2] w30 (fun e w33 => ∃ r36 : Bool, e = .returned (.bool r36) ∧ (R r36 w33))))))) ∧ (r22 = false → (R false w19))))))))) ∧ (¬ (r8_1 = (0 : Int)) → (R false w5)))))
set_option maxRecDepth 100000 in
theorem vc_law20_awake {R : Bool → World → Prop} {w : World} (h : VC_law20_awake R w) : Calls PP n_law20_awake #[] w fun e w' => ∃ r0 : Bool, e = .returned (.bool r0) ∧ R r0 w' := by
  refine Calls.mono (calls_of_cw (n := 24) (rs := #[.tmp 0]) (args := []) (R := fun v w' => ∃ r0 : Bool, v = .bool r0 ∧ R r0 w') Try.func24 rfl rfl (Nat.le_of_ble_eq_true rfl) rfl ?_) ?_
  case refine_2 => rintro e w' ⟨v, rfl, hr⟩; obtain ⟨r0, rfl, hr⟩ := hr; exact ⟨r0, rfl, hr⟩
  have hx : Ext w w := Chg.refl _
  unfold VC_law20_awake at h
  refine cw_seq ?_
  refine cw_region ?_
  refine sl_v rfl (r_as rfl) ?_
  refine sl_nil ?_
  refine cw_seq ?_
  refine cw_region ?_
  refine sl_v rfl (bd_api_Merge (vs := [(0, .string (⟨#[97]⟩ : ByteArray)), (1, .string (⟨#[98]⟩ : ByteArray))]) (cs := #[.string (⟨#[97]⟩ : ByteArray), .string (⟨#[98]⟩ : ByteArray)]) rfl rfl) ?_
  refine sl_v rfl (bd_api_Merge (vs := [(0, .string (⟨#[97, 98]⟩ : ByteArray)), (1, .string (⟨#[97, 98]⟩ : ByteArray))]) (cs := #[.string (⟨#[97, 98]⟩ : ByteArray), .string (⟨#[97, 98]⟩ : ByteArray)]) rfl rfl) ?_
  refine sl_op rfl (bs_sl_api_Merge (len := 2) (vs := [(0, .agg #[.string (⟨#[97]⟩ : ByteArray), .string (⟨#[98]⟩ : ByteArray)]), (1, .agg #[.string (⟨#[97, 98]⟩ : ByteArray), .string (⟨#[97, 98]⟩ : ByteArray)])]) (cs := #[.string (⟨#[97]⟩ : ByteArray), .string (⟨#[98]⟩ : ByteArray), .string (⟨#[97, 98]⟩ : ByteArray), .string (⟨#[97, 98]⟩ : ByteArray)]) (by decide) rfl rfl (fun b1 w2 hN3 => ?_))
  replace h := h b1 w2 hN3
  replace hx : Ext w2 w2 := Chg.refl _
  refine sl_op rfl (ok_call c_apply_New rfl (Calls.mono h (fun e4 w5 hq6 => ?_)))
  clear h
  obtain ⟨r8_0, r8_1, he7, h⟩ := hq6
  refine ⟨_, he7, ?_⟩
  replace hx : Ext w5 w5 := Chg.refl _
  refine sl_v rfl (r_mv rfl) ?_
  refine sl_v rfl (r_ex rfl rfl) ?_
  refine sl_v rfl (r_ex rfl rfl) ?_
  refine sl_v rfl (r_as rfl) ?_
  refine sl_v rfl (r_as rfl) ?_
  refine sl_nil ?_
  refine cw_seq ?_
  refine cw_region ?_
  refine sl_v rfl (r_mv rfl) ?_
  refine sl_v rfl (r_eql rfl rfl) ?_
  refine sl_v rfl (r_mv rfl) ?_
  refine bcases (decide (r8_1 = (0 : Int))) (fun hb9 => ?_) (fun hb9 => ?_)
  · replace h := h.1 (of_decide_eq_true hb9)
    refine sl_vg rfl rfl rfl hb9 (r_mv rfl) ?_
    refine sl_g rfl rfl rfl hb9 (ok_call c_apply_Coder_Encode rfl (Calls.mono h (fun e10 w11 hq12 => ?_)))
    clear h
    obtain ⟨r14, he13, h⟩ := hq12
    refine ⟨_, he13, ?_⟩
    replace hx : Ext w11 w11 := Chg.refl _
    refine sl_g rfl rfl rfl hb9 (bs_sl_int (len := 1) (vs := [(0, .int .i64 257)]) (cs := #[.int .i64 257]) (by decide) rfl rfl (fun b15 w16 hN17 => ?_))
    replace h := h b15 w16 hN17
    replace hx : Ext w16 w16 := Chg.refl _
    refine sl_g rfl rfl rfl hb9 (ok_call c_ref01_Ints rfl (Calls.mono h (fun e18 w19 hq20 => ?_)))
    clear h
    obtain ⟨r22, he21, h⟩ := hq20
    refine ⟨_, he21, ?_⟩
    replace hx : Ext w19 w19 := Chg.refl _
    refine sl_v rfl (r_pt rfl hb9 rfl) ?_
    refine sl_v rfl (r_mv rfl) ?_
    refine bcases (r22) (fun hb23 => ?_) (fun hb23 => ?_)
    · replace h := h.1 hb23
      refine sl_vg rfl rfl rfl hb23 (r_mv rfl) ?_
      refine sl_g rfl rfl rfl hb23 (ok_call c_apply_Coder_Encode rfl (Calls.mono h (fun e24 w25 hq26 => ?_)))
      clear h
      obtain ⟨r28, he27, h⟩ := hq26
      refine ⟨_, he27, ?_⟩
      replace hx : Ext w25 w25 := Chg.refl _
      refine sl_g rfl rfl rfl hb23 (bs_sl_int (len := 2) (vs := [(0, .int .i64 256), (1, .int .i64 97)]) (cs := #[.int .i64 256, .int .i64 97]) (by decide) rfl rfl (fun b29 w30 hN31 => ?_))
      replace h := h b29 w30 hN31
      replace hx : Ext w30 w30 := Chg.refl _
      refine sl_g rfl rfl rfl hb23 (ok_call c_ref01_Ints rfl (Calls.mono h (fun e32 w33 hq34 => ?_)))
      clear h
      obtain ⟨r36, he35, h⟩ := hq34
      refine ⟨_, he35, ?_⟩
      replace hx : Ext w33 w33 := Chg.refl _
      refine sl_v rfl (r_pt rfl hb23 rfl) ?_
      refine sl_v rfl (r_as rfl) ?_
      refine sl_nil ?_
      refine cw_ret ?_
      exact rs_1 (rt rfl) ⟨r36, rfl, h⟩
    · replace h := h.2 hb23
      refine sl_no rfl rfl rfl hb23 ?_
      refine sl_no rfl rfl rfl hb23 ?_
      refine sl_no rfl rfl rfl hb23 ?_
      refine sl_no rfl rfl rfl hb23 ?_
      refine sl_v rfl (r_pf rfl hb23 rfl) ?_
      refine sl_v rfl (r_as rfl) ?_
      refine sl_nil ?_
      refine cw_ret ?_
      exact rs_1 (rt rfl) ⟨false, rfl, h⟩
  · replace h := h.2 (of_decide_eq_false hb9)
    refine sl_no rfl rfl rfl hb9 ?_
    refine sl_no rfl rfl rfl hb9 ?_
    refine sl_no rfl rfl rfl hb9 ?_
    refine sl_no rfl rfl rfl hb9 ?_
    refine sl_v rfl (r_pf rfl hb9 rfl) ?_
    refine sl_v rfl (r_mv rfl) ?_
    refine sl_no rfl rfl rfl rfl ?_
    refine sl_no rfl rfl rfl rfl ?_
    refine sl_no rfl rfl rfl rfl ?_
    refine sl_no rfl rfl rfl rfl ?_
    refine sl_v rfl (r_pf rfl rfl rfl) ?_
    refine sl_v rfl (r_as rfl) ?_
    refine sl_nil ?_
    refine cw_ret ?_
    exact rs_1 (rt rfl) ⟨false, rfl, h⟩

def VC_ref07_Great (a0 : Sl) (a1 : Int) (R : Bool → World → Prop) (w : World) : Prop :=
  ∃ (I2 : Int → World → Prop) (μ3 : Int → World → Nat), I2 0 w ∧ ∀ (l1 : Int) (w5 : World), I2 l1 w5 → ((l1 < ((a0.n : Nat) : Int) → (∃ k9 : Nat, l1 = ((k9 : Nat) : Int) ∧ k9 < a0.n ∧ (∃ (b11 o12 : Nat), a0.b = some ⟨b11, o12, none⟩ ∧ (∃ v14 : ByteArray, w5.cell? ⟨b11, o12 + k9 * 2, none⟩ = some (.string v14) ∧ (((100 : Int) < ((v14.size : Nat) : Int) → (R true w5)) ∧ (¬ ((100 : Int) < ((v14.size : Nat) : Int)) → (∃ z17 : Int, z17 = IntKind.wrap .i64 (((k9 : Nat) : Int) + 1) ∧ (I2 z17 w5 ∧ μ3 z17 w5 < μ3 l1 w5)))))))) ∧ (¬ (l1 < ((a0.n : Nat) : Int)) → (R (decide (a1 < ((a0.n : Nat) : Int))) w5)))
set_option maxRecDepth 100000 in
theorem vc_ref07_Great {a0 : Sl} {a1 : Int} {R : Bool → World → Prop} {w : World} (h : VC_ref07_Great a0 a1 R w) : Calls PP n_ref07_Great #[a0.v, .int .i64 a1] w fun e w' => ∃ r0 : Bool, e = .returned (.bool r0) ∧ R r0 w' := by
  refine Calls.mono (calls_of_cw (n := 23) (rs := #[.tmp 4]) (args := [a0.v, .int .i64 a1]) (R := fun v w' => ∃ r0 : Bool, v = .bool r0 ∧ R r0 w') Try.func25 rfl rfl (Nat.le_of_ble_eq_true rfl) rfl ?_) ?_
  case refine_2 => rintro e w' ⟨v, rfl, hr⟩; obtain ⟨r0, rfl, hr⟩ := hr; exact ⟨r0, rfl, hr⟩
  have hx : Ext w w := Chg.refl _
  unfold VC_ref07_Great at h
  refine cw_seq ?_
  refine cw_region ?_
  refine sl_v rfl (r_as rfl) ?_
  refine sl_nil ?_
  refine cw_seq ?_
  refine cw_seq ?_
  refine cw_region ?_
  refine sl_v rfl (r_as rfl) ?_
  refine sl_nil ?_
  refine cw_block ?_
  obtain ⟨I2, μ3, hI4, h⟩ := h
  refine cw_loop (σ := Int) (fun s g => (upd (upd (upd (nm g []) 0 (a0.v)) 1 (.int .i64 a1)) 5 (.int .i64 s))) (fun s w => I2 s w) (fun s w => μ3 s w) (0) _ (kp (kp (kp (kn rfl) rfl) rfl) rfl) hI4 ?_
  rintro l1 g6 w5 hi7
  replace h := h l1 w5 hi7
  have hx : Ext w5 w5 := Chg.refl _
  change CW _ PP _ _ _ (upd (upd (upd (nm g6 []) 0 (a0.v)) 1 (.int .i64 a1)) 5 (.int .i64 l1)) _
  refine cw_seq ?_
  refine cw_seq ?_
  refine cw_region ?_
  refine sl_v rfl (r_mv rfl) ?_
  refine sl_v rfl (r_mv rfl) ?_
  refine sl_v rfl (r_len_l (s := a0) rfl rfl Try.underlying46) ?_
  refine sl_v rfl (r_lss rfl rfl) ?_
  refine sl_nil ?_
  refine bcases (decide (l1 < ((a0.n : Nat) : Int))) (fun hb8 => ?_) (fun hb8 => ?_)
  · replace h := h.1 (of_decide_eq_true hb8)
    refine cw_ct rfl hb8 ?_
    refine cw_skip ?_
    refine cw_seq ?_
    refine cw_block ?_
    refine cw_seq ?_
    refine cw_region ?_
    refine sl_v rfl (r_mv rfl) ?_
    refine sl_v rfl (r_mv rfl) ?_
    obtain ⟨k9, rfl, hk10, h⟩ := h
    obtain ⟨b11, o12, hb13, h⟩ := h
    refine sl_v rfl (ia_sl_api_Word (s := a0) (j := k9) (o' := o12 + k9 * 2) rfl rfl hk10 hb13 rfl) ?_
    refine sl_v rfl (fa_api_Word_0 (o' := o12 + k9 * 2) rfl rfl) ?_
    obtain ⟨v14, hc15, h⟩ := h
    refine sl_v rfl (ld_string rfl hc15) ?_
    refine sl_v rfl (r_len_s rfl rfl Try.underlying9) ?_
    refine sl_v rfl (r_gtr rfl rfl) ?_
    refine sl_nil ?_
    refine bcases (decide ((100 : Int) < ((v14.size : Nat) : Int))) (fun hb16 => ?_) (fun hb16 => ?_)
    · replace h := h.1 (of_decide_eq_true hb16)
      refine cw_ct rfl hb16 ?_
      refine cw_seq ?_
      refine cw_region ?_
      refine sl_v rfl (r_as rfl) ?_
      refine sl_nil ?_
      refine cw_ret ?_
      exact rs_1 (rt rfl) ⟨true, rfl, h⟩
    · replace h := h.2 (of_decide_eq_false hb16)
      refine cw_cf rfl hb16 ?_
      refine cw_skip ?_
      refine cw_region ?_
      refine sl_v rfl (r_mv rfl) ?_
      obtain ⟨z17, hz17, h⟩ := h
      refine sl_v rfl (r_add rfl rfl hz17) ?_
      refine sl_v rfl (r_as rfl) ?_
      refine sl_nil ?_
      exact ⟨(z17), _, (kp (kp (kp (kn rfl) rfl) rfl) rfl), h.1, h.2⟩
  · replace h := h.2 (of_decide_eq_false hb8)
    refine cw_cf rfl hb8 ?_
    refine cw_exit ?_
    refine cw_seq ?_
    refine cw_region ?_
    refine sl_v rfl (r_mv rfl) ?_
    refine sl_v rfl (r_len_l (s := a0) rfl rfl Try.underlying46) ?_
    refine sl_v rfl (r_mv rfl) ?_
    refine sl_v rfl (r_gtr rfl rfl) ?_
    refine sl_v rfl (r_as rfl) ?_
    refine sl_nil ?_
    refine cw_ret ?_
    exact rs_1 (rt rfl) ⟨decide (a1 < ((a0.n : Nat) : Int)), rfl, h⟩

def VC_ref08_Positions (a0 : Sl) (R : Int → World → Prop) (w : World) : Prop :=
  ∃ (I3 : Int → Int → World → Prop) (μ4 : Int → Int → World → Nat), I3 0 0 w ∧ ∀ (l1 : Int) (l2 : Int) (w6 : World), I3 l1 l2 w6 → ((l2 < ((a0.n : Nat) : Int) → (∃ k10 : Nat, l2 = ((k10 : Nat) : Int) ∧ k10 < a0.n ∧ (∃ (b12 o13 : Nat), a0.b = some ⟨b12, o13, none⟩ ∧ (∃ v15 : ByteArray, w6.cell? ⟨b12, o13 + k10 * 2, none⟩ = some (.string v15) ∧ (∃ z17 : Int, z17 = IntKind.wrap .i64 (l1 + ((v15.size : Nat) : Int)) ∧ (∃ z18 : Int, z18 = IntKind.wrap .i64 (((k10 : Nat) : Int) + 1) ∧ (I3 z17 z18 w6 ∧ μ4 z17 z18 w6 < μ4 l1 l2 w6))))))) ∧ (¬ (l2 < ((a0.n : Nat) : Int)) → (R l1 w6)))
set_option maxRecDepth 100000 in
theorem vc_ref08_Positions {a0 : Sl} {R : Int → World → Prop} {w : World} (h : VC_ref08_Positions a0 R w) : Calls PP n_ref08_Positions #[a0.v] w fun e w' => ∃ r0 : Int, e = .returned (.int .i64 r0) ∧ R r0 w' := by
  refine Calls.mono (calls_of_cw (n := 20) (rs := #[.tmp 2]) (args := [a0.v]) (R := fun v w' => ∃ r0 : Int, v = .int .i64 r0 ∧ R r0 w') Try.func26 rfl rfl (Nat.le_of_ble_eq_true rfl) rfl ?_) ?_
  case refine_2 => rintro e w' ⟨v, rfl, hr⟩; obtain ⟨r0, rfl, hr⟩ := hr; exact ⟨r0, rfl, hr⟩
  have hx : Ext w w := Chg.refl _
  unfold VC_ref08_Positions at h
  refine cw_seq ?_
  refine cw_region ?_
  refine sl_v rfl (r_as rfl) ?_
  refine sl_nil ?_
  refine cw_seq ?_
  refine cw_region ?_
  refine sl_v rfl (r_as rfl) ?_
  refine sl_nil ?_
  refine cw_seq ?_
  refine cw_seq ?_
  refine cw_region ?_
  refine sl_v rfl (r_as rfl) ?_
  refine sl_nil ?_
  refine cw_block ?_
  obtain ⟨I3, μ4, hI5, h⟩ := h
  refine cw_loop (σ := Int × Int) (fun s g => (upd (upd (upd (nm g []) 0 (a0.v)) 3 (.int .i64 s.1)) 4 (.int .i64 s.2))) (fun s w => I3 s.1 s.2 w) (fun s w => μ4 s.1 s.2 w) (0, 0) _ (kp (kp (kp (kn rfl) rfl) rfl) rfl) hI5 ?_
  rintro ⟨l1, l2⟩ g7 w6 hi8
  replace h := h l1 l2 w6 hi8
  have hx : Ext w6 w6 := Chg.refl _
  change CW _ PP _ _ _ (upd (upd (upd (nm g7 []) 0 (a0.v)) 3 (.int .i64 l1)) 4 (.int .i64 l2)) _
  refine cw_seq ?_
  refine cw_seq ?_
  refine cw_region ?_
  refine sl_v rfl (r_mv rfl) ?_
  refine sl_v rfl (r_mv rfl) ?_
  refine sl_v rfl (r_len_l (s := a0) rfl rfl Try.underlying46) ?_
  refine sl_v rfl (r_lss rfl rfl) ?_
  refine sl_nil ?_
  refine bcases (decide (l2 < ((a0.n : Nat) : Int))) (fun hb9 => ?_) (fun hb9 => ?_)
  · replace h := h.1 (of_decide_eq_true hb9)
    refine cw_ct rfl hb9 ?_
    refine cw_skip ?_
    refine cw_seq ?_
    refine cw_block ?_
    refine cw_region ?_
    refine sl_v rfl (r_mv rfl) ?_
    refine sl_v rfl (r_mv rfl) ?_
    refine sl_v rfl (r_mv rfl) ?_
    obtain ⟨k10, rfl, hk11, h⟩ := h
    obtain ⟨b12, o13, hb14, h⟩ := h
    refine sl_v rfl (ia_sl_api_Word (s := a0) (j := k10) (o' := o13 + k10 * 2) rfl rfl hk11 hb14 rfl) ?_
    refine sl_v rfl (fa_api_Word_0 (o' := o13 + k10 * 2) rfl rfl) ?_
    obtain ⟨v15, hc16, h⟩ := h
    refine sl_v rfl (ld_string rfl hc16) ?_
    refine sl_v rfl (r_len_s rfl rfl Try.underlying9) ?_
    obtain ⟨z17, hz17, h⟩ := h
    refine sl_v rfl (r_add rfl rfl hz17) ?_
    refine sl_v rfl (r_as rfl) ?_
    refine sl_nil ?_
    refine cw_region ?_
    refine sl_v rfl (r_mv rfl) ?_
    obtain ⟨z18, hz18, h⟩ := h
    refine sl_v rfl (r_add rfl rfl hz18) ?_
    refine sl_v rfl (r_as rfl) ?_
    refine sl_nil ?_
    exact ⟨(z17, z18), _, (kp (kp (kp (kn rfl) rfl) rfl) rfl), h.1, h.2⟩
  · replace h := h.2 (of_decide_eq_false hb9)
    refine cw_cf rfl hb9 ?_
    refine cw_exit ?_
    refine cw_seq ?_
    refine cw_region ?_
    refine sl_v rfl (r_mv rfl) ?_
    refine sl_v rfl (r_as rfl) ?_
    refine sl_nil ?_
    refine cw_ret ?_
    exact rs_1 (rt rfl) ⟨l1, rfl, h⟩

def VC_ref16_Learn (a0 : Sl) (a1 : Int) (a2 : Int) (R : Sl → World → Prop) (w : World) : Prop :=
  Calls PP n_ref08_Check #[a0.v] w (fun e w2 => ∃ r5_0 : Int, ∃ r5_1 : Int, e = .returned (.tuple #[.int .i64 r5_0, .int .i64 r5_1]) ∧ (∃ K7 : Bool → World → Prop, (∀ (j6 : Bool) (w9 : World), K7 j6 w9 → ((j6 = true → (R (⟨none, 0, 0⟩ : Sl) w9)) ∧ (j6 = false → (∃ (I17 : Sl → Sl → Int → World → Prop) (μ18 : Sl → Sl → Int → World → Nat), I17 (⟨none, 0, 0⟩ : Sl) (⟨none, 0, 0⟩ : Sl) 0 w9 ∧ ∀ (l14 : Sl) (l15 : Sl) (l16 : Int) (w20 : World), I17 l14 l15 l16 w20 → ((l16 < ((a0.n : Nat) : Int) → (∃ k24 : Nat, l16 = ((k24 : Nat) : Int) ∧ k24 < a0.n ∧ (∃ (b26 o27 : Nat), a0.b = some ⟨b26, o27, none⟩ ∧ (∃ v29 : ByteArray, w20.cell? ⟨b26, o27 + k24 * 2, none⟩ = some (.string v29) ∧ (Calls PP n_ref16_Texts #[.string v29] w20 (fun e w32 => ∃ r35 : Sl, e = .returned (r35.v) ∧ (∃ xs44 : List Value, Own w32 t_sl_string 1 l14 xs44 ∧ ((l14.n + 1) * 24 ≤ 140737488355328 ∧ l14.n + 1 ≤ maxLen) ∧ (∀ (s41 : Sl) (w40 : World), App w32 t_sl_string 1 l14 xs44 1 [r35.v] s41 w40 → (∃ v47 : Int, w40.cell? ⟨b26, o27 + k24 * 2 + 1, none⟩ = some (.int .i64 v47) ∧ (∃ xs57 : List Value, Own w40 t_int 1 l15 xs57 ∧ ((l15.n + 1) * 8 ≤ 140737488355328 ∧ l15.n + 1 ≤ maxLen) ∧ (∀ (s54 : Sl) (w53 : World), App w40 t_int 1 l15 xs57 1 [.int .i64 v47] s54 w53 → (∃ z60 : Int, z60 = IntKind.wrap .i64 (((k24 : Nat) : Int) + 1) ∧ (I17 s41 s54 z60 w53 ∧ μ18 s41 s54 z60 w53 < μ18 l14 l15 l16 w20))))))))))))) ∧ (¬ (l16 < ((a0.n : Nat) : Int)) → (∃ (I63 : Sl → Sl → World → Prop) (μ64 : Sl → Sl → World → Nat), I63 (⟨none, 0, 0⟩ : Sl) l14 w20 ∧ ∀ (l61 : Sl) (l62 : Sl) (w66 : World), I63 l61 l62 w66 → ((((l61.n : Nat) : Int) < a1 → (Calls PP n_ref16_Best #[l62.v, l15.v] w66 (fun e w71 => ∃ r74_0_0 : ByteArray, ∃ r74_0_1 : ByteArray, ∃ r74_1 : Int, e = .returned (.tuple #[.agg #[.string r74_0_0, .string r74_0_1], .int .i64 r74_1]) ∧ (∀ (b75 : Nat) (w76 : World), Priv w71 b75 w76 → (∀ w79 : World, Chg (fun b => b = b75) w76 w79 → ((r74_1 < a2 → (R l61 w79)) ∧ (¬ (r74_1 < a2) → (∃ xs91 : List Value, Own w79 t_api_Merge 2 l61 xs91 ∧ ((l61.n + 1) * 32 ≤ 140737488355328 ∧ l61.n + 1 ≤ maxLen) ∧ (l61.blk ≠ some b75 ∧ (∀ (s88 : Sl) (w87 : World), App w79 t_api_Merge 2 l61 xs91 1 [.string r74_0_0, .string r74_0_1] s88 w87 → (∃ (I97 : Sl → Int → World → Prop) (μ98 : Sl → Int → World → Nat), I97 (⟨none, 0, 0⟩ : Sl) 0 w87 ∧ ∀ (l95 : Sl) (l96 : Int) (w100 : World), I97 l95 l96 w100 → ((l96 < ((l62.n : Nat) : Int) → (∃ k105 : Nat, l96 = ((k105 : Nat) : Int) ∧ k105 < l62.n ∧ (∃ (b107 o108 : Nat), l62.b = some ⟨b107, o108, none⟩ ∧ (∃ v110 : Sl, w100.cell? ⟨b107, o108 + k105 * 1, none⟩ = some (v110.v) ∧ (∀ w112 : World, Ext w100 w112 → (Calls PP n_ref16_Join #[v110.v, .agg #[.string r74_0_0, .string r74_0_1]] w112 (fun e w116 => ∃ r119 : Sl, e = .returned (r119.v) ∧ w116.heap[b75]? = w112.heap[b75]? ∧ (w116.cell? ⟨b107, o108 + k105 * 1, none⟩ = some (v110.v) ∧ (∃ xs131 : List Value, Own w116 t_sl_string 1 l95 xs131 ∧ ((l95.n + 1) * 24 ≤ 140737488355328 ∧ l95.n + 1 ≤ maxLen) ∧ (l95.blk ≠ some b75 ∧ (∀ (s128 : Sl) (w127 : World), App w116 t_sl_string 1 l95 xs131 1 [r119.v] s128 w127 → (w127.cell? ⟨b107, o108 + k105 * 1, none⟩ = some (v110.v) ∧ (∃ z136 : Int, z136 = IntKind.wrap .i64 (((k105 : Nat) : Int) + 1) ∧ (I97 s128 z136 w127 ∧ μ98 s128 z136 w127 < μ98 l95 l96 w100)))))))))))))) ∧ (¬ (l96 < ((l62.n : Nat) : Int)) → (I63 s88 l95 w100 ∧ μ64 s88 l95 w100 < μ64 l61 l62 w66)))))))))))))) ∧ (¬ (((l61.n : Nat) : Int) < a1) → (R l61 w66)))))))))) ∧ ((r5_1 ≠ (0 : Int) → (K7 true w2)) ∧ (¬ (r5_1 ≠ (0 : Int)) → (K7 (decide (a2 < (1 : Int))) w2)))))
set_option maxRecDepth 100000 in
theorem vc_ref16_Learn {a0 : Sl} {a1 : Int} {a2 : Int} {R : Sl → World → Prop} {w : World} (h : VC_ref16_Learn a0 a1 a2 R w) : Calls PP n_ref16_Learn #[a0.v, .int .i64 a1, .int .i64 a2] w fun e w' => ∃ r0 : Sl, e = .returned (r0.v) ∧ R r0 w' := by
  refine Calls.mono (calls_of_cw (n := 87) (rs := #[.tmp 6]) (args := [a0.v, .int .i64 a1, .int .i64 a2]) (R := fun v w' => ∃ r0 : Sl, v = r0.v ∧ R r0 w') Try.func27 rfl rfl (Nat.le_of_ble_eq_true rfl) rfl ?_) ?_
  case refine_2 => rintro e w' ⟨v, rfl, hr⟩; obtain ⟨r0, rfl, hr⟩ := hr; exact ⟨r0, rfl, hr⟩
  have hx : Ext w w := Chg.refl _
  unfold VC_ref16_Learn at h
  refine cw_seq ?_
  refine cw_region ?_
  refine sl_v rfl (r_as rfl) ?_
  refine sl_nil ?_
  refine cw_seq ?_
  refine cw_region ?_
  refine sl_v rfl (r_as rfl) ?_
  refine sl_nil ?_
  refine cw_seq ?_
  refine cw_region ?_
  refine sl_v rfl (r_mv rfl) ?_
  refine sl_op rfl (ok_call c_ref08_Check rfl (Calls.mono h (fun e1 w2 hq3 => ?_)))
  clear h
  obtain ⟨r5_0, r5_1, he4, h⟩ := hq3
  refine ⟨_, he4, ?_⟩
  replace hx : Ext w2 w2 := Chg.refl _
  refine sl_v rfl (r_mv rfl) ?_
  refine sl_v rfl (r_ex rfl rfl) ?_
  refine sl_v rfl (r_ex rfl rfl) ?_
  refine sl_v rfl (r_as rfl) ?_
  refine sl_v rfl (r_as rfl) ?_
  refine sl_nil ?_
  refine cw_seq ?_
  obtain ⟨K7, hK8, h⟩ := h
  refine cw_mid (fun f w => ∃ (g : Env) (j6 : Bool), f = (upd (upd (upd (upd (upd (nm g []) 0 (a0.v)) 1 (.int .i64 a1)) 2 (.int .i64 a2)) 7 (.slice none 0 0)) 27 (.bool j6)) ∧ K7 j6 w) ?_ (fun _ w9 hM11 => ?_)
  ·
    refine cw_region ?_
    refine sl_v rfl (r_mv rfl) ?_
    refine sl_v rfl (r_neq rfl rfl) ?_
    refine sl_v rfl (r_mv rfl) ?_
    refine bcases (decide (r5_1 ≠ (0 : Int))) (fun hb12 => ?_) (fun hb12 => ?_)
    · replace h := h.1 (of_decide_eq_true hb12)
      refine sl_no rfl rfl rfl hb12 ?_
      refine sl_no rfl rfl rfl hb12 ?_
      refine sl_v rfl (r_pt rfl hb12 rfl) ?_
      refine sl_nil ?_
      exact ⟨_, true, (kp (kp (kp (kp (kp (kn rfl) rfl) rfl) rfl) rfl) rfl), h⟩
    · replace h := h.2 (of_decide_eq_false hb12)
      refine sl_vg rfl rfl rfl hb12 (r_mv rfl) ?_
      refine sl_vg rfl rfl rfl hb12 (r_lss rfl rfl) ?_
      refine sl_v rfl (r_pf rfl hb12 rfl) ?_
      refine sl_nil ?_
      exact ⟨_, decide (a2 < (1 : Int)), (kp (kp (kp (kp (kp (kn rfl) rfl) rfl) rfl) rfl) rfl), h⟩
  ·
    obtain ⟨g10, j6, rfl, hM11⟩ := hM11
    replace h := hK8 j6 w9 hM11
    have hx : Ext w9 w9 := Chg.refl _
    refine bcases (j6) (fun hb13 => ?_) (fun hb13 => ?_)
    · replace h := h.1 hb13
      refine cw_ct rfl hb13 ?_
      refine cw_seq ?_
      refine cw_region ?_
      refine sl_v rfl (r_mv rfl) ?_
      refine sl_v rfl (r_as rfl) ?_
      refine sl_nil ?_
      refine cw_ret ?_
      exact rs_1 (rt rfl) ⟨(⟨none, 0, 0⟩ : Sl), rfl, h⟩
    · replace h := h.2 hb13
      refine cw_cf rfl hb13 ?_
      refine cw_skip ?_
      refine cw_seq ?_
      refine cw_region ?_
      refine sl_v rfl (r_as rfl) ?_
      refine sl_nil ?_
      refine cw_seq ?_
      refine cw_region ?_
      refine sl_v rfl (r_as rfl) ?_
      refine sl_nil ?_
      refine cw_seq ?_
      refine cw_seq ?_
      refine cw_region ?_
      refine sl_v rfl (r_as rfl) ?_
      refine sl_nil ?_
      refine cw_block ?_
      obtain ⟨I17, μ18, hI19, h⟩ := h
      refine cw_loop (σ := Sl × Sl × Int) (fun s g => (upd (upd (upd (upd (upd (upd (upd (nm g []) 0 (a0.v)) 1 (.int .i64 a1)) 2 (.int .i64 a2)) 7 (.slice none 0 0)) 10 (s.1.v)) 11 (s.2.1.v)) 12 (.int .i64 s.2.2))) (fun s w => I17 s.1 s.2.1 s.2.2 w) (fun s w => μ18 s.1 s.2.1 s.2.2 w) ((⟨none, 0, 0⟩ : Sl), (⟨none, 0, 0⟩ : Sl), 0) _ (kp (kp (kp (kp (kp (kp (kp (kn rfl) rfl) rfl) rfl) rfl) rfl) rfl) rfl) hI19 ?_
      rintro ⟨l14, l15, l16⟩ g21 w20 hi22
      replace h := h l14 l15 l16 w20 hi22
      have hx : Ext w20 w20 := Chg.refl _
      change CW _ PP _ _ _ (upd (upd (upd (upd (upd (upd (upd (nm g21 []) 0 (a0.v)) 1 (.int .i64 a1)) 2 (.int .i64 a2)) 7 (.slice none 0 0)) 10 (l14.v)) 11 (l15.v)) 12 (.int .i64 l16)) _
      refine cw_seq ?_
      refine cw_seq ?_
      refine cw_region ?_
      refine sl_v rfl (r_mv rfl) ?_
      refine sl_v rfl (r_mv rfl) ?_
      refine sl_v rfl (r_len_l (s := a0) rfl rfl Try.underlying46) ?_
      refine sl_v rfl (r_lss rfl rfl) ?_
      refine sl_nil ?_
      refine bcases (decide (l16 < ((a0.n : Nat) : Int))) (fun hb23 => ?_) (fun hb23 => ?_)
      · replace h := h.1 (of_decide_eq_true hb23)
        refine cw_ct rfl hb23 ?_
        refine cw_skip ?_
        refine cw_seq ?_
        refine cw_block ?_
        refine cw_seq ?_
        refine cw_region ?_
        refine sl_v rfl (r_mv rfl) ?_
        refine sl_v rfl (r_mv rfl) ?_
        refine sl_v rfl (r_mv rfl) ?_
        obtain ⟨k24, rfl, hk25, h⟩ := h
        obtain ⟨b26, o27, hb28, h⟩ := h
        refine sl_v rfl (ia_sl_api_Word (s := a0) (j := k24) (o' := o27 + k24 * 2) rfl rfl hk25 hb28 rfl) ?_
        refine sl_v rfl (fa_api_Word_0 (o' := o27 + k24 * 2) rfl rfl) ?_
        obtain ⟨v29, hc30, h⟩ := h
        refine sl_v rfl (ld_string rfl hc30) ?_
        refine sl_op rfl (ok_call c_ref16_Texts rfl (Calls.mono h (fun e31 w32 hq33 => ?_)))
        clear h
        obtain ⟨r35, he34, h⟩ := hq33
        refine ⟨_, he34, ?_⟩
        replace hx : Ext w32 w32 := Chg.refl _
        refine sl_op rfl (bs_sl_sl_string (len := 1) (vs := [(0, r35.v)]) (cs := #[r35.v]) (by decide) rfl rfl (fun b36 w37 hN38 => ?_))
        have hB39 := hN38.here
        replace hx := hx.tr hN38.ext
        obtain ⟨xs44, ho45, hb46, h⟩ := h
        refine sl_op rfl (ap_sl_sl_string (s := l14) (xs := xs44) (m := 1) (news := [r35.v]) rfl rfl hx ho45 (.c (cell_blk hB39 rfl) .n) rfl rfl hb46 (fun s41 w40 ha42 hc43 => ?_))
        replace h := h s41 w40 ha42
        replace hx : Ext w40 w40 := Chg.refl _
        refine sl_v rfl (r_as rfl) ?_
        refine sl_nil ?_
        refine cw_region ?_
        refine sl_v rfl (r_mv rfl) ?_
        refine sl_v rfl (r_mv rfl) ?_
        refine sl_v rfl (r_mv rfl) ?_
        refine sl_v rfl (ia_sl_api_Word (s := a0) (j := k24) (o' := o27 + k24 * 2) rfl rfl hk25 hb28 rfl) ?_
        refine sl_v rfl (fa_api_Word_1 (o' := o27 + k24 * 2 + 1) rfl rfl) ?_
        obtain ⟨v47, hc48, h⟩ := h
        refine sl_v rfl (ld_int rfl hc48) ?_
        refine sl_op rfl (bs_sl_int (len := 1) (vs := [(0, .int .i64 v47)]) (cs := #[.int .i64 v47]) (by decide) rfl rfl (fun b49 w50 hN51 => ?_))
        have hB52 := hN51.here
        replace hx := hx.tr hN51.ext
        obtain ⟨xs57, ho58, hb59, h⟩ := h
        refine sl_op rfl (ap_sl_int (s := l15) (xs := xs57) (m := 1) (news := [.int .i64 v47]) rfl rfl hx ho58 (.c (cell_blk hB52 rfl) .n) rfl rfl hb59 (fun s54 w53 ha55 hc56 => ?_))
        replace h := h s54 w53 ha55
        replace hx : Ext w53 w53 := Chg.refl _
        refine sl_v rfl (r_as rfl) ?_
        refine sl_nil ?_
        refine cw_region ?_
        refine sl_v rfl (r_mv rfl) ?_
        obtain ⟨z60, hz60, h⟩ := h
        refine sl_v rfl (r_add rfl rfl hz60) ?_
        refine sl_v rfl (r_as rfl) ?_
        refine sl_nil ?_
        exact ⟨(s41, s54, z60), _, (kp (kp (kp (kp (kp (kp (kp (kn rfl) rfl) rfl) rfl) rfl) rfl) rfl) rfl), h.1, h.2⟩
      · replace h := h.2 (of_decide_eq_false hb23)
        refine cw_cf rfl hb23 ?_
        refine cw_exit ?_
        refine cw_seq ?_
        refine cw_block ?_
        obtain ⟨I63, μ64, hI65, h⟩ := h
        refine cw_loop (σ := Sl × Sl) (fun s g => (upd (upd (upd (upd (upd (nm g []) 1 (.int .i64 a1)) 2 (.int .i64 a2)) 7 (s.1.v)) 10 (s.2.v)) 11 (l15.v))) (fun s w => I63 s.1 s.2 w) (fun s w => μ64 s.1 s.2 w) ((⟨none, 0, 0⟩ : Sl), l14) _ (kp (kp (kp (kp (kp (kn rfl) rfl) rfl) rfl) rfl) rfl) hI65 ?_
        rintro ⟨l61, l62⟩ g67 w66 hi68
        replace h := h l61 l62 w66 hi68
        have hx : Ext w66 w66 := Chg.refl _
        change CW _ PP _ _ _ (upd (upd (upd (upd (upd (nm g67 []) 1 (.int .i64 a1)) 2 (.int .i64 a2)) 7 (l61.v)) 10 (l62.v)) 11 (l15.v)) _
        refine cw_seq ?_
        refine cw_seq ?_
        refine cw_region ?_
        refine sl_v rfl (r_mv rfl) ?_
        refine sl_v rfl (r_len_l (s := l61) rfl rfl Try.underlying22) ?_
        refine sl_v rfl (r_mv rfl) ?_
        refine sl_v rfl (r_lss rfl rfl) ?_
        refine sl_nil ?_
        refine bcases (decide (((l61.n : Nat) : Int) < a1)) (fun hb69 => ?_) (fun hb69 => ?_)
        · replace h := h.1 (of_decide_eq_true hb69)
          refine cw_ct rfl hb69 ?_
          refine cw_skip ?_
          refine cw_block ?_
          refine cw_seq ?_
          refine cw_region ?_
          refine sl_v rfl (r_mv rfl) ?_
          refine sl_v rfl (r_mv rfl) ?_
          refine sl_op rfl (ok_call c_ref16_Best rfl (Calls.mono h (fun e70 w71 hq72 => ?_)))
          clear h
          obtain ⟨r74_0_0, r74_0_1, r74_1, he73, h⟩ := hq72
          refine ⟨_, he73, ?_⟩
          replace hx : Ext w71 w71 := Chg.refl _
          refine sl_v rfl (r_mv rfl) ?_
          refine sl_v rfl (r_ex rfl rfl) ?_
          refine sl_v rfl (r_ex rfl rfl) ?_
          refine sl_op rfl (al_api_Merge rfl (fun b75 w76 hN77 => ?_))
          have hB78 := hN77.here
          replace h := h b75 w76 ⟨hx.tr hN77.ext, Nat.le_trans hx.size hN77.fresh, lt_of_blk hN77.here⟩
          replace hx : Ext w76 w76 := Chg.refl _
          refine sl_op rfl (st_api_Merge (vs := [.string r74_0_0, .string r74_0_1]) rfl rfl rfl rfl rfl ⟨_, _, hB78, Nat.le_of_ble_eq_true rfl⟩ (fun w79 hw80 => ?_))
          have hc_ := sto_chg hw80
          replace hB78 : w79.heap[b75]? = some (.cells #[.string r74_0_0, .string r74_0_1] t_api_Merge (0, 0)) := sto_blk hw80 hB78
          replace h := h w79 (Chg.pre hx hc_)
          replace hx : Ext w79 w79 := Chg.refl _
          clear hc_
          refine sl_v rfl (r_as rfl) ?_
          refine sl_nil ?_
          refine cw_seq ?_
          refine cw_seq ?_
          refine cw_region ?_
          refine sl_v rfl (r_mv rfl) ?_
          refine sl_v rfl (r_mv rfl) ?_
          refine sl_v rfl (r_lss rfl rfl) ?_
          refine sl_nil ?_
          refine bcases (decide (r74_1 < a2)) (fun hb81 => ?_) (fun hb81 => ?_)
          · replace h := h.1 (of_decide_eq_true hb81)
            refine cw_ct rfl hb81 ?_
            refine cw_seq ?_
            refine cw_region ?_
            refine sl_v rfl (r_mv rfl) ?_
            refine sl_v rfl (r_as rfl) ?_
            refine sl_nil ?_
            refine cw_ret ?_
            exact rs_1 (rt rfl) ⟨l61, rfl, h⟩
          · replace h := h.2 (of_decide_eq_false hb81)
            refine cw_cf rfl hb81 ?_
            refine cw_skip ?_
            refine cw_seq ?_
            refine cw_region ?_
            refine sl_v rfl (r_mv rfl) ?_
            refine sl_v rfl (lda_api_Merge (vs := [.string r74_0_0, .string r74_0_1]) rfl rfl (.c (cell_blk hB78 rfl) (.c (cell_blk hB78 rfl) .n))) ?_
            refine sl_op rfl (bs_sl_api_Merge (len := 1) (vs := [(0, .agg #[.string r74_0_0, .string r74_0_1])]) (cs := #[.string r74_0_0, .string r74_0_1]) (by decide) rfl rfl (fun b82 w83 hN84 => ?_))
            have hne85 : b75 ≠ b82 := Nat.ne_of_lt (Nat.lt_of_lt_of_le (lt_of_blk hB78) hN84.fresh)
            replace hB78 := hN84.ext.get hB78
            have hB86 := hN84.here
            replace hx := hx.tr hN84.ext
            obtain ⟨xs91, ho92, hb93, h⟩ := h
            obtain ⟨hn94, h⟩ := h
            refine sl_op rfl (ap_sl_api_Merge (s := l61) (xs := xs91) (m := 1) (news := [.string r74_0_0, .string r74_0_1]) rfl rfl hx ho92 (.c (cell_blk hB86 rfl) (.c (cell_blk hB86 rfl) .n)) rfl rfl hb93 (fun s88 w87 ha89 hc90 => ?_))
            replace hB78 := hc90.get hB78 hn94
            replace h := h s88 w87 ha89
            replace hx : Ext w87 w87 := Chg.refl _
            refine sl_v rfl (r_as rfl) ?_
            refine sl_nil ?_
            refine cw_seq ?_
            refine cw_region ?_
            refine sl_v rfl (r_as rfl) ?_
            refine sl_nil ?_
            refine cw_seq ?_
            refine cw_seq ?_
            refine cw_region ?_
            refine sl_v rfl (r_as rfl) ?_
            refine sl_nil ?_
            refine cw_block ?_
            obtain ⟨I97, μ98, hI99, h⟩ := h
            refine cw_loop (σ := Sl × Int) (fun s g => (upd (upd (upd (upd (upd (upd (upd (upd (nm g []) 1 (.int .i64 a1)) 2 (.int .i64 a2)) 7 (s88.v)) 10 (l62.v)) 11 (l15.v)) 13 (.pointer (some ⟨b75, 0, none⟩))) 15 (s.1.v)) 16 (.int .i64 s.2))) (fun s w => w.heap[b75]? = some (.cells #[.string r74_0_0, .string r74_0_1] t_api_Merge (0, 0)) ∧ I97 s.1 s.2 w) (fun s w => μ98 s.1 s.2 w) ((⟨none, 0, 0⟩ : Sl), 0) _ (kp (kp (kp (kp (kp (kp (kp (kp (kn rfl) rfl) rfl) rfl) rfl) rfl) rfl) rfl) rfl) ⟨hB78, hI99⟩ ?_
            rintro ⟨l95, l96⟩ g101 w100 ⟨hB103, hi102⟩
            replace h := h l95 l96 w100 hi102
            have hx : Ext w100 w100 := Chg.refl _
            change CW _ PP _ _ _ (upd (upd (upd (upd (upd (upd (upd (upd (nm g101 []) 1 (.int .i64 a1)) 2 (.int .i64 a2)) 7 (s88.v)) 10 (l62.v)) 11 (l15.v)) 13 (.pointer (some ⟨b75, 0, none⟩))) 15 (l95.v)) 16 (.int .i64 l96)) _
            refine cw_seq ?_
            refine cw_seq ?_
            refine cw_region ?_
            refine sl_v rfl (r_mv rfl) ?_
            refine sl_v rfl (r_mv rfl) ?_
            refine sl_v rfl (r_len_l (s := l62) rfl rfl Try.underlying53) ?_
            refine sl_v rfl (r_lss rfl rfl) ?_
            refine sl_nil ?_
            refine bcases (decide (l96 < ((l62.n : Nat) : Int))) (fun hb104 => ?_) (fun hb104 => ?_)
            · replace h := h.1 (of_decide_eq_true hb104)
              refine cw_ct rfl hb104 ?_
              refine cw_skip ?_
              refine cw_seq ?_
              refine cw_block ?_
              obtain ⟨k105, rfl, hk106, h⟩ := h
              obtain ⟨b107, o108, hb109, h⟩ := h
              obtain ⟨v110, hc111, h⟩ := h
              refine cw_dw (S := fun w' => w'.cell? ⟨b107, o108 + k105 * 1, none⟩ = some (v110.v) ∧ Cells w' b75 0 [.string r74_0_0, .string r74_0_1] ∧ True) mo (fun w112 hd113 => ?_)
              replace hB103 := (Ext.of_drew hd113).get hB103
              replace hx := hx.tr (Ext.of_drew hd113)
              have hS : w112.cell? ⟨b107, o108 + k105 * 1, none⟩ = some (v110.v) ∧ Cells w112 b75 0 [.string r74_0_0, .string r74_0_1] ∧ True := ⟨hx.cell hc111, (.c (cell_blk hB103 rfl) (.c (cell_blk hB103 rfl) .n)), trivial⟩
              refine dw_t 0 1 rfl (by kernel_rfl) rfl hS (fun _ _ => (r_mv rfl)) ?_
              refine dw_t 1 3 rfl (by kernel_rfl) rfl hS (fun _ _ => (r_mv rfl)) ?_
              refine dw_t 2 7 rfl (by kernel_rfl) rfl hS (fun _ _ => (r_mv rfl)) ?_
              refine dw_t 3 15 rfl (by kernel_rfl) rfl hS (fun _ _ => (ia_sl_sl_string (s := l62) (j := k105) (o' := o108 + k105 * 1) rfl rfl hk106 hb109 rfl)) ?_
              refine dw_t 4 31 rfl (by kernel_rfl) rfl hS (fun _ hS => (ld_sl_string rfl hS.1)) ?_
              refine dw_t 5 63 rfl (by kernel_rfl) rfl hS (fun _ hS => (lda_api_Merge (vs := [.string r74_0_0, .string r74_0_1]) rfl rfl hS.2.1)) ?_
              replace h := h _ hx
              replace hx : Ext w112 w112 := Chg.refl _
              refine dw_l 6 127 rfl (by kernel_rfl) rfl (ok_call c_ref16_Join rfl (Calls.mono h (fun e115 w116 hq117 => ?_)))
              clear h
              obtain ⟨r119, he118, hk120, h⟩ := hq117
              refine ⟨_, he118, ?_⟩
              replace hB103 := hk120.trans hB103
              replace hx : Ext w116 w116 := Chg.refl _
              obtain ⟨hq121, h⟩ := h
              replace hS : w116.cell? ⟨b107, o108 + k105 * 1, none⟩ = some (v110.v) ∧ Cells w116 b75 0 [.string r74_0_0, .string r74_0_1] ∧ True := ⟨hq121, (.c (cell_blk hB103 rfl) (.c (cell_blk hB103 rfl) .n)), trivial⟩
              refine ⟨hS, ?_⟩
              refine dw_l 7 255 rfl (by kernel_rfl) rfl (bs_sl_sl_string (len := 1) (vs := [(0, r119.v)]) (cs := #[r119.v]) (by decide) rfl rfl (fun b122 w123 hN124 => ?_))
              have hne125 : b75 ≠ b122 := Nat.ne_of_lt (Nat.lt_of_lt_of_le (lt_of_blk hB103) hN124.fresh)
              replace hB103 := hN124.ext.get hB103
              have hB126 := hN124.here
              replace hx := hx.tr hN124.ext
              replace hS : w123.cell? ⟨b107, o108 + k105 * 1, none⟩ = some (v110.v) ∧ Cells w123 b75 0 [.string r74_0_0, .string r74_0_1] ∧ True := ⟨hN124.ext.cell hS.1, (.c (cell_blk hB103 rfl) (.c (cell_blk hB103 rfl) .n)), trivial⟩
              refine ⟨hS, ?_⟩
              obtain ⟨xs131, ho132, hb133, h⟩ := h
              obtain ⟨hn134, h⟩ := h
              refine dw_l 8 511 rfl (by kernel_rfl) rfl (ap_sl_sl_string (s := l95) (xs := xs131) (m := 1) (news := [r119.v]) rfl rfl hx ho132 (.c (cell_blk hB126 rfl) .n) rfl rfl hb133 (fun s128 w127 ha129 hc130 => ?_))
              replace hB103 := hc130.get hB103 hn134
              replace h := h s128 w127 ha129
              replace hx : Ext w127 w127 := Chg.refl _
              obtain ⟨hq135, h⟩ := h
              replace hS : w127.cell? ⟨b107, o108 + k105 * 1, none⟩ = some (v110.v) ∧ Cells w127 b75 0 [.string r74_0_0, .string r74_0_1] ∧ True := ⟨hq135, (.c (cell_blk hB103 rfl) (.c (cell_blk hB103 rfl) .n)), trivial⟩
              refine ⟨hS, ?_⟩
              refine dw_t 9 1023 rfl (by kernel_rfl) rfl hS (fun _ _ => (r_as rfl)) ?_
              refine dw_d (by kernel_rfl) ?_
              clear hS
              refine cw_region ?_
              refine sl_v rfl (r_mv rfl) ?_
              obtain ⟨z136, hz136, h⟩ := h
              refine sl_v rfl (r_add rfl rfl hz136) ?_
              refine sl_v rfl (r_as rfl) ?_
              refine sl_nil ?_
              exact ⟨(s128, z136), _, (kp (kp (kp (kp (kp (kp (kp (kp (kn rfl) rfl) rfl) rfl) rfl) rfl) rfl) rfl) rfl), ⟨hB103, h.1⟩, h.2⟩
            · replace h := h.2 (of_decide_eq_false hb104)
              refine cw_cf rfl hb104 ?_
              refine cw_exit ?_
              refine cw_region ?_
              refine sl_v rfl (r_mv rfl) ?_
              refine sl_v rfl (r_as rfl) ?_
              refine sl_nil ?_
              exact ⟨(s88, l95), _, (kp (kp (kp (kp (kp (kn rfl) rfl) rfl) rfl) rfl) rfl), h.1, h.2⟩
        · replace h := h.2 (of_decide_eq_false hb69)
          refine cw_cf rfl hb69 ?_
          refine cw_exit ?_
          refine cw_seq ?_
          refine cw_region ?_
          refine sl_v rfl (r_mv rfl) ?_
          refine sl_v rfl (r_as rfl) ?_
          refine sl_nil ?_
          refine cw_ret ?_
          exact rs_1 (rt rfl) ⟨l61, rfl, h⟩

def VC_apply_New (a0 : Sl) (R : Option Addr → Int → World → Prop) (w : World) : Prop :=
  Calls PP n_file_Check #[a0.v] w (fun e w2 => ∃ r5_0 : Int, ∃ r5_1 : Int, e = .returned (.tuple #[.int .i64 r5_0, .int .i64 r5_1]) ∧ ((r5_1 ≠ (0 : Int) → (R none r5_1 w2)) ∧ (¬ (r5_1 ≠ (0 : Int)) → (Calls PP n_sym_New #[] w2 (fun e w8 => ∃ r11 : Option Addr, e = .returned (.pointer r11) ∧ (∀ (b12 : Nat) (w13 : World), New w8 b12 (.map #[] 0) w13 → (∀ (b15 : Nat) (w16 : World), New w13 b15 (.cells #[.pointer r11, .map (some b12)] t_apply_Coder (0, 0)) w16 → (∃ (I19 : Int → World → Prop) (μ20 : Int → World → Nat), I19 0 w16 ∧ ∀ (l18 : Int) (w22 : World), I19 l18 w22 → ((l18 < ((a0.n : Nat) : Int) → (∃ k26 : Nat, l18 = ((k26 : Nat) : Int) ∧ k26 < a0.n ∧ (∃ (b28 o29 : Nat), a0.b = some ⟨b28, o29, none⟩ ∧ (∃ v31_0 : ByteArray, ∃ v31_1 : ByteArray, Cells w22 b28 (o29 + k26 * 2) [.string v31_0, .string v31_1] ∧ (∀ (b33 : Nat) (w34 : World), Priv w22 b33 w34 → (∀ w37 : World, Chg (fun b => b = b33) w34 w37 → (∃ v39 : Option Addr, w37.cell? ⟨b15, 0, none⟩ = some (.pointer v39) ∧ (∀ w41 : World, Ext w37 w41 → (Calls PP n_sym_Table_Find #[.pointer v39, .string v31_0] w41 (fun e w45 => ∃ r48_0 : Int, ∃ r48_1 : Bool, e = .returned (.tuple #[.int .i64 r48_0, .bool r48_1]) ∧ w45.heap[b33]? = w41.heap[b33]? ∧ (w45.cell? ⟨b15, 0, none⟩ = some (.pointer v39) ∧ (∃ v51 : Option Addr, w45.cell? ⟨b15, 0, none⟩ = some (.pointer v51) ∧ (∀ w53 : World, Ext w45 w53 → (Calls PP n_sym_Table_Find #[.pointer v51, .string v31_1] w53 (fun e w57 => ∃ r60_0 : Int, ∃ r60_1 : Bool, e = .returned (.tuple #[.int .i64 r60_0, .bool r60_1]) ∧ w57.heap[b33]? = w53.heap[b33]? ∧ (w57.cell? ⟨b15, 0, none⟩ = some (.pointer v51) ∧ (∃ v63 : Option Addr, w57.cell? ⟨b15, 0, none⟩ = some (.pointer v63) ∧ (Calls PP n_sym_Table_Join #[.pointer v63, .int .i64 r48_0, .int .i64 r60_0] w57 (fun e w66 => ∃ r69_0 : Int, ∃ r69_1 : Int, e = .returned (.tuple #[.int .i64 r69_0, .int .i64 r69_1]) ∧ w66.heap[b33]? = w57.heap[b33]? ∧ ((r69_1 ≠ (0 : Int) → (R none r69_1 w66)) ∧ (¬ (r69_1 ≠ (0 : Int)) → (∃ v72 : Option Nat, w66.cell? ⟨b15, 1, none⟩ = some (.map v72) ∧ (∃ b78 : Nat, v72 = some b78 ∧ (∃ es79 : List ((Int × Int) × Int), Mp pairV intV w66 (some b78) es79 ∧ (b33 ≠ b78 ∧ (∀ w74 : World, Mp pairV intV w74 (some b78) (mput (r48_0, r60_0) r69_0 es79) → Chg (fun x => x = b78) w66 w74 → (∃ z81 : Int, z81 = IntKind.wrap .i64 (((k26 : Nat) : Int) + 1) ∧ (I19 z81 w74 ∧ μ20 z81 w74 < μ20 l18 w22)))))))))))))))))))))))))))) ∧ (¬ (l18 < ((a0.n : Nat) : Int)) → (R (some ⟨b15, 0, none⟩) 0 w22)))))))))))
set_option maxRecDepth 100000 in
theorem vc_apply_New {a0 : Sl} {R : Option Addr → Int → World → Prop} {w : World} (h : VC_apply_New a0 R w) : Calls PP n_apply_New #[a0.v] w fun e w' => ∃ r0 : Option Addr, ∃ r1 : Int, e = .returned (.tuple #[.pointer r0, .int .i64 r1]) ∧ R r0 r1 w' := by
  refine Calls.mono (calls_of_cw (n := 76) (rs := #[.tmp 2, .tmp 3]) (args := [a0.v]) (R := fun v w' => ∃ r0 : Option Addr, ∃ r1 : Int, v = .tuple #[.pointer r0, .int .i64 r1] ∧ R r0 r1 w') Try.func28 rfl rfl (Nat.le_of_ble_eq_true rfl) rfl ?_) ?_
  case refine_2 => rintro e w' ⟨v, rfl, hr⟩; obtain ⟨r0, r1, rfl, hr⟩ := hr; exact ⟨r0, r1, rfl, hr⟩
  have hx : Ext w w := Chg.refl _
  unfold VC_apply_New at h
  refine cw_seq ?_
  refine cw_region ?_
  refine sl_v rfl (r_as rfl) ?_
  refine sl_v rfl (r_as rfl) ?_
  refine sl_nil ?_
  refine cw_seq ?_
  refine cw_seq ?_
  refine cw_region ?_
  refine sl_v rfl (r_mv rfl) ?_
  refine sl_op rfl (ok_call c_file_Check rfl (Calls.mono h (fun e1 w2 hq3 => ?_)))
  clear h
  obtain ⟨r5_0, r5_1, he4, h⟩ := hq3
  refine ⟨_, he4, ?_⟩
  replace hx : Ext w2 w2 := Chg.refl _
  refine sl_v rfl (r_mv rfl) ?_
  refine sl_v rfl (r_ex rfl rfl) ?_
  refine sl_v rfl (r_ex rfl rfl) ?_
  refine sl_v rfl (r_as rfl) ?_
  refine sl_v rfl (r_as rfl) ?_
  refine sl_nil ?_
  refine cw_seq ?_
  refine cw_region ?_
  refine sl_v rfl (r_mv rfl) ?_
  refine sl_v rfl (r_neq rfl rfl) ?_
  refine sl_nil ?_
  refine bcases (decide (r5_1 ≠ (0 : Int))) (fun hb6 => ?_) (fun hb6 => ?_)
  · replace h := h.1 (of_decide_eq_true hb6)
    refine cw_ct rfl hb6 ?_
    refine cw_seq ?_
    refine cw_region ?_
    refine sl_v rfl (r_mv rfl) ?_
    refine sl_v rfl (r_as rfl) ?_
    refine sl_v rfl (r_as rfl) ?_
    refine sl_nil ?_
    refine cw_ret ?_
    exact rs_2 (rt rfl) (rt rfl) ⟨none, r5_1, rfl, h⟩
  · replace h := h.2 (of_decide_eq_false hb6)
    refine cw_cf rfl hb6 ?_
    refine cw_skip ?_
    refine cw_seq ?_
    refine cw_region ?_
    refine sl_op rfl (ok_call c_sym_New rfl (Calls.mono h (fun e7 w8 hq9 => ?_)))
    clear h
    obtain ⟨r11, he10, h⟩ := hq9
    refine ⟨_, he10, ?_⟩
    replace hx : Ext w8 w8 := Chg.refl _
    refine sl_op rfl (ok_mm (fun b12 w13 hN14 => ?_) rfl)
    replace h := h b12 w13 hN14
    replace hx : Ext w13 w13 := Chg.refl _
    refine sl_v rfl (bd_apply_Coder (vs := [(0, .pointer r11), (1, .map (some b12))]) (cs := #[.pointer r11, .map (some b12)]) rfl rfl) ?_
    refine sl_op rfl (bx_apply_Coder rfl rfl (fun b15 w16 hN17 => ?_))
    replace h := h b15 w16 hN17
    replace hx : Ext w16 w16 := Chg.refl _
    refine sl_v rfl (r_as rfl) ?_
    refine sl_nil ?_
    refine cw_seq ?_
    refine cw_seq ?_
    refine cw_region ?_
    refine sl_v rfl (r_mv rfl) ?_
    refine sl_v rfl (r_len_l (s := a0) rfl rfl Try.underlying22) ?_
    refine sl_v rfl (r_mv rfl) ?_
    refine sl_nil ?_
    refine cw_block ?_
    obtain ⟨I19, μ20, hI21, h⟩ := h
    refine cw_loop (σ := Int) (fun s g => (upd (upd (upd (upd (nm g []) 6 (.pointer (some ⟨b15, 0, none⟩))) 27 (a0.v)) 28 (.int .i64 ((a0.n : Nat) : Int))) 29 (.int .i64 s))) (fun s w => I19 s w) (fun s w => μ20 s w) (0) _ (kp (kp (kp (kp (kn rfl) rfl) rfl) rfl) rfl) hI21 ?_
    rintro l18 g23 w22 hi24
    replace h := h l18 w22 hi24
    have hx : Ext w22 w22 := Chg.refl _
    change CW _ PP _ _ _ (upd (upd (upd (upd (nm g23 []) 6 (.pointer (some ⟨b15, 0, none⟩))) 27 (a0.v)) 28 (.int .i64 ((a0.n : Nat) : Int))) 29 (.int .i64 l18)) _
    refine cw_seq ?_
    refine cw_region ?_
    refine sl_v rfl (r_lss rfl rfl) ?_
    refine sl_nil ?_
    refine cw_seq ?_
    refine bcases (decide (l18 < ((a0.n : Nat) : Int))) (fun hb25 => ?_) (fun hb25 => ?_)
    · replace h := h.1 (of_decide_eq_true hb25)
      refine cw_ct rfl hb25 ?_
      refine cw_skip ?_
      refine cw_seq ?_
      refine cw_block ?_
      refine cw_seq ?_
      refine cw_region ?_
      obtain ⟨k26, rfl, hk27, h⟩ := h
      obtain ⟨b28, o29, hb30, h⟩ := h
      refine sl_v rfl (ia_sl_api_Merge (s := a0) (j := k26) (o' := o29 + k26 * 2) rfl rfl hk27 hb30 rfl) ?_
      obtain ⟨v31_0, v31_1, hc32, h⟩ := h
      refine sl_v rfl (lda_api_Merge rfl rfl hc32) ?_
      refine sl_op rfl (al_api_Merge rfl (fun b33 w34 hN35 => ?_))
      have hB36 := hN35.here
      replace h := h b33 w34 ⟨hx.tr hN35.ext, Nat.le_trans hx.size hN35.fresh, lt_of_blk hN35.here⟩
      replace hx : Ext w34 w34 := Chg.refl _
      refine sl_op rfl (st_api_Merge (vs := [.string v31_0, .string v31_1]) rfl rfl rfl rfl rfl ⟨_, _, hB36, Nat.le_of_ble_eq_true rfl⟩ (fun w37 hw38 => ?_))
      have hc_ := sto_chg hw38
      replace hB36 : w37.heap[b33]? = some (.cells #[.string v31_0, .string v31_1] t_api_Merge (0, 0)) := sto_blk hw38 hB36
      replace h := h w37 (Chg.pre hx hc_)
      replace hx : Ext w37 w37 := Chg.refl _
      clear hc_
      refine sl_nil ?_
      refine cw_seq ?_
      obtain ⟨v39, hc40, h⟩ := h
      refine cw_dw (S := fun w' => w'.cell? ⟨b15, 0, none⟩ = some (.pointer v39) ∧ w'.cell? ⟨b33, 0, none⟩ = some (.string v31_0) ∧ True) mo (fun w41 hd42 => ?_)
      replace hB36 := (Ext.of_drew hd42).get hB36
      replace hx := hx.tr (Ext.of_drew hd42)
      have hS : w41.cell? ⟨b15, 0, none⟩ = some (.pointer v39) ∧ w41.cell? ⟨b33, 0, none⟩ = some (.string v31_0) ∧ True := ⟨hx.cell hc40, (cell_blk hB36 rfl), trivial⟩
      refine dw_t 0 1 rfl (by kernel_rfl) rfl hS (fun _ _ => (r_mv rfl)) ?_
      refine dw_t 1 3 rfl (by kernel_rfl) rfl hS (fun _ _ => (r_nc rfl)) ?_
      refine dw_t 2 7 rfl (by kernel_rfl) rfl hS (fun _ _ => (fa_apply_Coder_0 (o' := 0) rfl rfl)) ?_
      refine dw_t 3 15 rfl (by kernel_rfl) rfl hS (fun _ hS => (ld_p_sym_Table rfl hS.1)) ?_
      refine dw_t 4 31 rfl (by kernel_rfl) rfl hS (fun _ _ => (fa_api_Merge_0 (o' := 0) rfl rfl)) ?_
      refine dw_t 5 63 rfl (by kernel_rfl) rfl hS (fun _ hS => (ld_string rfl hS.2.1)) ?_
      replace h := h _ hx
      replace hx : Ext w41 w41 := Chg.refl _
      refine dw_l 6 127 rfl (by kernel_rfl) rfl (ok_call c_sym_Table_Find rfl (Calls.mono h (fun e44 w45 hq46 => ?_)))
      clear h
      obtain ⟨r48_0, r48_1, he47, hk49, h⟩ := hq46
      refine ⟨_, he47, ?_⟩
      replace hB36 := hk49.trans hB36
      replace hx : Ext w45 w45 := Chg.refl _
      obtain ⟨hq50, h⟩ := h
      replace hS : w45.cell? ⟨b15, 0, none⟩ = some (.pointer v39) ∧ w45.cell? ⟨b33, 0, none⟩ = some (.string v31_0) ∧ True := ⟨hq50, (cell_blk hB36 rfl), trivial⟩
      refine ⟨hS, ?_⟩
      refine dw_t 7 255 rfl (by kernel_rfl) rfl hS (fun _ _ => (r_mv rfl)) ?_
      refine dw_t 8 511 rfl (by kernel_rfl) rfl hS (fun _ _ => (r_ex rfl rfl)) ?_
      refine dw_t 9 1023 rfl (by kernel_rfl) rfl hS (fun _ _ => (r_ex rfl rfl)) ?_
      refine dw_t 10 2047 rfl (by kernel_rfl) rfl hS (fun _ _ => (r_as rfl)) ?_
      refine dw_t 11 4095 rfl (by kernel_rfl) rfl hS (fun _ _ => (r_as rfl)) ?_
      refine dw_d (by kernel_rfl) ?_
      clear hS
      refine cw_seq ?_
      obtain ⟨v51, hc52, h⟩ := h
      refine cw_dw (S := fun w' => w'.cell? ⟨b15, 0, none⟩ = some (.pointer v51) ∧ w'.cell? ⟨b33, 1, none⟩ = some (.string v31_1) ∧ True) mo (fun w53 hd54 => ?_)
      replace hB36 := (Ext.of_drew hd54).get hB36
      replace hx := hx.tr (Ext.of_drew hd54)
      have hS : w53.cell? ⟨b15, 0, none⟩ = some (.pointer v51) ∧ w53.cell? ⟨b33, 1, none⟩ = some (.string v31_1) ∧ True := ⟨hx.cell hc52, (cell_blk hB36 rfl), trivial⟩
      refine dw_t 0 1 rfl (by kernel_rfl) rfl hS (fun _ _ => (r_mv rfl)) ?_
      refine dw_t 1 3 rfl (by kernel_rfl) rfl hS (fun _ _ => (r_nc rfl)) ?_
      refine dw_t 2 7 rfl (by kernel_rfl) rfl hS (fun _ _ => (fa_apply_Coder_0 (o' := 0) rfl rfl)) ?_
      refine dw_t 3 15 rfl (by kernel_rfl) rfl hS (fun _ hS => (ld_p_sym_Table rfl hS.1)) ?_
      refine dw_t 4 31 rfl (by kernel_rfl) rfl hS (fun _ _ => (fa_api_Merge_1 (o' := 1) rfl rfl)) ?_
      refine dw_t 5 63 rfl (by kernel_rfl) rfl hS (fun _ hS => (ld_string rfl hS.2.1)) ?_
      replace h := h _ hx
      replace hx : Ext w53 w53 := Chg.refl _
      refine dw_l 6 127 rfl (by kernel_rfl) rfl (ok_call c_sym_Table_Find rfl (Calls.mono h (fun e56 w57 hq58 => ?_)))
      clear h
      obtain ⟨r60_0, r60_1, he59, hk61, h⟩ := hq58
      refine ⟨_, he59, ?_⟩
      replace hB36 := hk61.trans hB36
      replace hx : Ext w57 w57 := Chg.refl _
      obtain ⟨hq62, h⟩ := h
      replace hS : w57.cell? ⟨b15, 0, none⟩ = some (.pointer v51) ∧ w57.cell? ⟨b33, 1, none⟩ = some (.string v31_1) ∧ True := ⟨hq62, (cell_blk hB36 rfl), trivial⟩
      refine ⟨hS, ?_⟩
      refine dw_t 7 255 rfl (by kernel_rfl) rfl hS (fun _ _ => (r_mv rfl)) ?_
      refine dw_t 8 511 rfl (by kernel_rfl) rfl hS (fun _ _ => (r_ex rfl rfl)) ?_
      refine dw_t 9 1023 rfl (by kernel_rfl) rfl hS (fun _ _ => (r_ex rfl rfl)) ?_
      refine dw_t 10 2047 rfl (by kernel_rfl) rfl hS (fun _ _ => (r_as rfl)) ?_
      refine dw_t 11 4095 rfl (by kernel_rfl) rfl hS (fun _ _ => (r_as rfl)) ?_
      refine dw_d (by kernel_rfl) ?_
      clear hS
      refine cw_seq ?_
      refine cw_region ?_
      refine sl_v rfl (r_mv rfl) ?_
      refine sl_v rfl (r_nc rfl) ?_
      refine sl_v rfl (fa_apply_Coder_0 (o' := 0) rfl rfl) ?_
      obtain ⟨v63, hc64, h⟩ := h
      refine sl_v rfl (ld_p_sym_Table rfl hc64) ?_
      refine sl_v rfl (r_mv rfl) ?_
      refine sl_v rfl (r_mv rfl) ?_
      refine sl_op rfl (ok_call c_sym_Table_Join rfl (Calls.mono h (fun e65 w66 hq67 => ?_)))
      clear h
      obtain ⟨r69_0, r69_1, he68, hk70, h⟩ := hq67
      refine ⟨_, he68, ?_⟩
      replace hB36 := hk70.trans hB36
      replace hx : Ext w66 w66 := Chg.refl _
      refine sl_v rfl (r_mv rfl) ?_
      refine sl_v rfl (r_ex rfl rfl) ?_
      refine sl_v rfl (r_ex rfl rfl) ?_
      refine sl_v rfl (r_as rfl) ?_
      refine sl_v rfl (r_as rfl) ?_
      refine sl_nil ?_
      refine cw_seq ?_
      refine cw_seq ?_
      refine cw_region ?_
      refine sl_v rfl (r_mv rfl) ?_
      refine sl_v rfl (r_neq rfl rfl) ?_
      refine sl_nil ?_
      refine bcases (decide (r69_1 ≠ (0 : Int))) (fun hb71 => ?_) (fun hb71 => ?_)
      · replace h := h.1 (of_decide_eq_true hb71)
        refine cw_ct rfl hb71 ?_
        refine cw_seq ?_
        refine cw_region ?_
        refine sl_v rfl (r_mv rfl) ?_
        refine sl_v rfl (r_as rfl) ?_
        refine sl_v rfl (r_as rfl) ?_
        refine sl_nil ?_
        refine cw_ret ?_
        exact rs_2 (rt rfl) (rt rfl) ⟨none, r69_1, rfl, h⟩
      · replace h := h.2 (of_decide_eq_false hb71)
        refine cw_cf rfl hb71 ?_
        refine cw_skip ?_
        refine cw_region ?_
        refine sl_v rfl (r_mv rfl) ?_
        refine sl_v rfl (r_nc rfl) ?_
        refine sl_v rfl (fa_apply_Coder_1 (o' := 1) rfl rfl) ?_
        obtain ⟨v72, hc73, h⟩ := h
        refine sl_v rfl (ld_map_api_Pair_int rfl hc73) ?_
        refine sl_v rfl (r_mv rfl) ?_
        refine sl_v rfl (r_mv rfl) ?_
        refine sl_v rfl (bd_api_Pair (vs := [(0, .int .i64 r48_0), (1, .int .i64 r60_0)]) (cs := #[.int .i64 r48_0, .int .i64 r60_0]) rfl rfl) ?_
        refine sl_v rfl (r_mv rfl) ?_
        obtain ⟨b78, rfl, h⟩ := h
        obtain ⟨es79, hm77, h⟩ := h
        obtain ⟨hn80, h⟩ := h
        refine sl_op rfl (mu_map_api_Pair_int (a := (r48_0, r60_0)) (c := r69_0) rfl rfl rfl hm77 (fun w74 hq75 hc76 => ?_))
        replace hB36 := hc76.get hB36 hn80
        replace h := h w74 hq75 hc76
        replace hx : Ext w74 w74 := Chg.refl _
        refine sl_nil ?_
        refine cw_region ?_
        obtain ⟨z81, hz81, h⟩ := h
        refine sl_v rfl (r_add rfl rfl hz81) ?_
        refine sl_v rfl (r_mv rfl) ?_
        refine sl_nil ?_
        exact ⟨(z81), _, (kp (kp (kp (kp (kn rfl) rfl) rfl) rfl) rfl), h.1, h.2⟩
    · replace h := h.2 (of_decide_eq_false hb25)
      refine cw_cf rfl hb25 ?_
      refine cw_exit ?_
      refine cw_seq ?_
      refine cw_region ?_
      refine sl_v rfl (r_mv rfl) ?_
      refine sl_v rfl (r_as rfl) ?_
      refine sl_v rfl (r_as rfl) ?_
      refine sl_nil ?_
      refine cw_ret ?_
      exact rs_2 (rt rfl) (rt rfl) ⟨some ⟨b15, 0, none⟩, 0, rfl, h⟩
end Go.Proofs.Ytchjcjocihckpaa.G
