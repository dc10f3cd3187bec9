/- The names of this program: its types and functions, and what the operations ask of them. -/
import Derived.Test.YtchjcjocihckpaaGaC
import Derived.Test.YtchjcjocihckpaaProg
import Derived.KernelRfl
namespace Go.Proofs.Ytchjcjocihckpaa.G
open Go Go.RowKit
noncomputable abbrev PP : Program := Try.prog
theorem mo : PP.follows .mixedOrders = true := by kernel_rfl
abbrev t_int : TypeId := 3
abbrev t_bool : TypeId := 4
abbrev t_uint8 : TypeId := 5
abbrev t_string : TypeId := 9
abbrev t_sl_api_Merge : TypeId := 22
abbrev t_sl_string : TypeId := 37
abbrev t_sl_api_Word : TypeId := 46
abbrev t_sl_sl_string : TypeId := 53
abbrev t_api_Word : TypeId := 56
abbrev t_sl_int : TypeId := 58
abbrev t_api_Merge : TypeId := 70
abbrev t_map_string_int : TypeId := 73
abbrev t_vocab_Vocab : TypeId := 75
abbrev t_sl_uint8 : TypeId := 76
abbrev t_p_sym_Table : TypeId := 86
abbrev t_map_api_Pair_int : TypeId := 88
abbrev t_apply_Coder : TypeId := 90
abbrev t_api_Pair : TypeId := 94
abbrev t_strings_Builder : TypeId := 98
abbrev t_sl_seq_Change : TypeId := 110
abbrev t_sl_sym_joined : TypeId := 116
abbrev t_sym_Table : TypeId := 118
abbrev t_sym_joined : TypeId := 120
abbrev t_sl_seq_cell : TypeId := 124
abbrev t_seq_Seq : TypeId := 126
abbrev t_seq_cell : TypeId := 128
abbrev t_seq_Change : TypeId := 131
abbrev t_seq_ledger : TypeId := 132
abbrev n_law21_VocabTells : FuncId := 3
abbrev n_law21_VocabWhole : FuncId := 4
abbrev n_law20_ApplyLearnt : FuncId := 5
abbrev n_law20_ApplyCodes : FuncId := 6
abbrev n_law20_ApplyBack : FuncId := 7
abbrev n_law21_awake : FuncId := 8
abbrev n_ref18_Great : FuncId := 9
abbrev n_vocab_New : FuncId := 10
abbrev n_ref18_Check : FuncId := 11
abbrev n_vocab_Vocab_Has : FuncId := 12
abbrev n_ref21_Has : FuncId := 13
abbrev n_vocab_Vocab_Depth : FuncId := 14
abbrev n_ref21_Depth : FuncId := 15
abbrev n_vocab_Vocab_Uses : FuncId := 16
abbrev n_ref21_Uses : FuncId := 17
abbrev n_vocab_Vocab_Len : FuncId := 18
abbrev n_ref01_Texts : FuncId := 19
abbrev n_vocab_Vocab_Longest : FuncId := 20
abbrev n_ref21_Longest : FuncId := 21
abbrev n_ref21_Texts : FuncId := 22
abbrev n_vocab_Vocab_Texts : FuncId := 23
abbrev n_law20_awake : FuncId := 24
abbrev n_ref07_Great : FuncId := 25
abbrev n_ref08_Positions : FuncId := 26
abbrev n_ref16_Learn : FuncId := 27
abbrev n_apply_New : FuncId := 28
abbrev n_ref17_Words : FuncId := 29
abbrev n_apply_Coder_Split : FuncId := 30
abbrev n_apply_Coder_Decode : FuncId := 31
abbrev n_ref20_Decode : FuncId := 32
abbrev n_apply_Coder_Count : FuncId := 33
abbrev n_ref20_Count : FuncId := 34
abbrev n_ref20_Split : FuncId := 35
abbrev n_ref01_Ints : FuncId := 36
abbrev n_apply_Coder_Encode : FuncId := 37
abbrev n_ref20_Encode : FuncId := 38
abbrev n_apply_Coder_Size : FuncId := 39
abbrev n_file_Check : FuncId := 40
abbrev n_ref18_side : FuncId := 41
abbrev n_ref21_made : FuncId := 42
abbrev n_ref01_Less : FuncId := 43
abbrev n_vocab_Vocab_Texts_c1 : FuncId := 44
abbrev n_slices_Values_string_string : FuncId := 45
abbrev n_slices_Sorted_string : FuncId := 46
abbrev n_maps_Keys_map_string_int_string_int : FuncId := 47
abbrev n_ref08_Check : FuncId := 48
abbrev n_ref16_Texts : FuncId := 49
abbrev n_ref16_Best : FuncId := 50
abbrev n_ref16_Join : FuncId := 51
abbrev n_sym_New : FuncId := 52
abbrev n_sym_Table_Find : FuncId := 53
abbrev n_sym_Table_Join : FuncId := 54
abbrev n_sym_Table_Text : FuncId := 55
abbrev n_strings_Builder_WriteString : FuncId := 56
abbrev n_strings_Builder_String : FuncId := 57
abbrev n_checked_Dot : FuncId := 58
abbrev n_ref06_Dot : FuncId := 59
abbrev n_seq_New : FuncId := 60
abbrev n_apply_Coder_next : FuncId := 61
abbrev n_seq_Seq_Symbols : FuncId := 62
abbrev n_seq_Seq_Merge : FuncId := 63
abbrev n_ref20_Symbol : FuncId := 64
abbrev n_sym_Table_Len : FuncId := 65
abbrev n_file_join : FuncId := 66
abbrev n_slices_Values_string_string_c1 : FuncId := 67
abbrev n_ref08_Weight : FuncId := 71
abbrev n_ref16_Count : FuncId := 72
abbrev n_strings_Builder_copyCheck : FuncId := 73
abbrev n_checked_Mul : FuncId := 74
abbrev n_checked_Sum : FuncId := 75
abbrev n_ref06_Mul : FuncId := 76
abbrev n_ref06_Add : FuncId := 77
abbrev n_seq_Seq_Pairs : FuncId := 78
abbrev n_seq_Seq_pair : FuncId := 79
abbrev n_seq_Seq_join : FuncId := 80
abbrev n_seq_ledger_list : FuncId := 81
abbrev n_checked_within : FuncId := 86
abbrev n_math_bits_Mul64 : FuncId := 87
abbrev n_checked_Add : FuncId := 88
abbrev n_seq_Seq_note : FuncId := 89
abbrev n_slices_SortFunc_seq_Change_seq_Change : FuncId := 90
abbrev n_seq_ledger_list_c1 : FuncId := 91
abbrev n_cmp_Or_int : FuncId := 92
abbrev n_cmp_Compare_int : FuncId := 93
abbrev n_cmp_Less_string : FuncId := 100
abbrev n_seq_ledger_add : FuncId := 105
abbrev n_cmp_isNaN_int : FuncId := 107
abbrev n_cmp_isNaN_string : FuncId := 113
theorem c_law21_awake : Cal PP 8 := ⟨_, Try.func8, by kernel_rfl, by kernel_rfl⟩
theorem c_ref18_Great : Cal PP 9 := ⟨_, Try.func9, by kernel_rfl, by kernel_rfl⟩
theorem c_vocab_New : Cal PP 10 := ⟨_, Try.func10, by kernel_rfl, by kernel_rfl⟩
theorem c_ref18_Check : Cal PP 11 := ⟨_, Try.func11, by kernel_rfl, by kernel_rfl⟩
theorem c_vocab_Vocab_Has : Cal PP 12 := ⟨_, Try.func12, by kernel_rfl, by kernel_rfl⟩
theorem c_ref21_Has : Cal PP 13 := ⟨_, Try.func13, by kernel_rfl, by kernel_rfl⟩
theorem c_vocab_Vocab_Depth : Cal PP 14 := ⟨_, Try.func14, by kernel_rfl, by kernel_rfl⟩
theorem c_ref21_Depth : Cal PP 15 := ⟨_, Try.func15, by kernel_rfl, by kernel_rfl⟩
theorem c_vocab_Vocab_Uses : Cal PP 16 := ⟨_, Try.func16, by kernel_rfl, by kernel_rfl⟩
theorem c_ref21_Uses : Cal PP 17 := ⟨_, Try.func17, by kernel_rfl, by kernel_rfl⟩
theorem c_vocab_Vocab_Len : Cal PP 18 := ⟨_, Try.func18, by kernel_rfl, by kernel_rfl⟩
theorem c_ref01_Texts : Cal PP 19 := ⟨_, Try.func19, by kernel_rfl, by kernel_rfl⟩
theorem c_vocab_Vocab_Longest : Cal PP 20 := ⟨_, Try.func20, by kernel_rfl, by kernel_rfl⟩
theorem c_ref21_Longest : Cal PP 21 := ⟨_, Try.func21, by kernel_rfl, by kernel_rfl⟩
theorem c_ref21_Texts : Cal PP 22 := ⟨_, Try.func22, by kernel_rfl, by kernel_rfl⟩
theorem c_vocab_Vocab_Texts : Cal PP 23 := ⟨_, Try.func23, by kernel_rfl, by kernel_rfl⟩
theorem c_law20_awake : Cal PP 24 := ⟨_, Try.func24, by kernel_rfl, by kernel_rfl⟩
theorem c_ref07_Great : Cal PP 25 := ⟨_, Try.func25, by kernel_rfl, by kernel_rfl⟩
theorem c_ref08_Positions : Cal PP 26 := ⟨_, Try.func26, by kernel_rfl, by kernel_rfl⟩
theorem c_ref16_Learn : Cal PP 27 := ⟨_, Try.func27, by kernel_rfl, by kernel_rfl⟩
theorem c_apply_New : Cal PP 28 := ⟨_, Try.func28, by kernel_rfl, by kernel_rfl⟩
theorem c_ref17_Words : Cal PP 29 := ⟨_, Try.func29, by kernel_rfl, by kernel_rfl⟩
theorem c_apply_Coder_Split : Cal PP 30 := ⟨_, Try.func30, by kernel_rfl, by kernel_rfl⟩
theorem c_apply_Coder_Decode : Cal PP 31 := ⟨_, Try.func31, by kernel_rfl, by kernel_rfl⟩
theorem c_ref20_Decode : Cal PP 32 := ⟨_, Try.func32, by kernel_rfl, by kernel_rfl⟩
theorem c_apply_Coder_Count : Cal PP 33 := ⟨_, Try.func33, by kernel_rfl, by kernel_rfl⟩
theorem c_ref20_Count : Cal PP 34 := ⟨_, Try.func34, by kernel_rfl, by kernel_rfl⟩
theorem c_ref20_Split : Cal PP 35 := ⟨_, Try.func35, by kernel_rfl, by kernel_rfl⟩
theorem c_ref01_Ints : Cal PP 36 := ⟨_, Try.func36, by kernel_rfl, by kernel_rfl⟩
theorem c_apply_Coder_Encode : Cal PP 37 := ⟨_, Try.func37, by kernel_rfl, by kernel_rfl⟩
theorem c_ref20_Encode : Cal PP 38 := ⟨_, Try.func38, by kernel_rfl, by kernel_rfl⟩
theorem c_apply_Coder_Size : Cal PP 39 := ⟨_, Try.func39, by kernel_rfl, by kernel_rfl⟩
theorem c_file_Check : Cal PP 40 := ⟨_, Try.func40, by kernel_rfl, by kernel_rfl⟩
theorem c_ref18_side : Cal PP 41 := ⟨_, Try.func41, by kernel_rfl, by kernel_rfl⟩
theorem c_ref21_made : Cal PP 42 := ⟨_, Try.func42, by kernel_rfl, by kernel_rfl⟩
theorem c_ref01_Less : Cal PP 43 := ⟨_, Try.func43, by kernel_rfl, by kernel_rfl⟩
theorem c_slices_Values_string_string : Cal PP 45 := ⟨_, Try.func45, by kernel_rfl, by kernel_rfl⟩
theorem c_slices_Sorted_string : Cal PP 46 := ⟨_, Try.func46, by kernel_rfl, by kernel_rfl⟩
theorem c_maps_Keys_map_string_int_string_int : Cal PP 47 := ⟨_, Try.func47, by kernel_rfl, by kernel_rfl⟩
theorem c_ref08_Check : Cal PP 48 := ⟨_, Try.func48, by kernel_rfl, by kernel_rfl⟩
theorem c_ref16_Texts : Cal PP 49 := ⟨_, Try.func49, by kernel_rfl, by kernel_rfl⟩
theorem c_ref16_Best : Cal PP 50 := ⟨_, Try.func50, by kernel_rfl, by kernel_rfl⟩
theorem c_ref16_Join : Cal PP 51 := ⟨_, Try.func51, by kernel_rfl, by kernel_rfl⟩
theorem c_sym_New : Cal PP 52 := ⟨_, Try.func52, by kernel_rfl, by kernel_rfl⟩
theorem c_sym_Table_Find : Cal PP 53 := ⟨_, Try.func53, by kernel_rfl, by kernel_rfl⟩
theorem c_sym_Table_Join : Cal PP 54 := ⟨_, Try.func54, by kernel_rfl, by kernel_rfl⟩
theorem c_sym_Table_Text : Cal PP 55 := ⟨_, Try.func55, by kernel_rfl, by kernel_rfl⟩
theorem c_strings_Builder_WriteString : Cal PP 56 := ⟨_, Try.func56, by kernel_rfl, by kernel_rfl⟩
theorem c_strings_Builder_String : Cal PP 57 := ⟨_, Try.func57, by kernel_rfl, by kernel_rfl⟩
theorem c_checked_Dot : Cal PP 58 := ⟨_, Try.func58, by kernel_rfl, by kernel_rfl⟩
theorem c_ref06_Dot : Cal PP 59 := ⟨_, Try.func59, by kernel_rfl, by kernel_rfl⟩
theorem c_seq_New : Cal PP 60 := ⟨_, Try.func60, by kernel_rfl, by kernel_rfl⟩
theorem c_apply_Coder_next : Cal PP 61 := ⟨_, Try.func61, by kernel_rfl, by kernel_rfl⟩
theorem c_seq_Seq_Symbols : Cal PP 62 := ⟨_, Try.func62, by kernel_rfl, by kernel_rfl⟩
theorem c_seq_Seq_Merge : Cal PP 63 := ⟨_, Try.func63, by kernel_rfl, by kernel_rfl⟩
theorem c_ref20_Symbol : Cal PP 64 := ⟨_, Try.func64, by kernel_rfl, by kernel_rfl⟩
theorem c_sym_Table_Len : Cal PP 65 := ⟨_, Try.func65, by kernel_rfl, by kernel_rfl⟩
theorem c_file_join : Cal PP 66 := ⟨_, Try.func66, by kernel_rfl, by kernel_rfl⟩
theorem c_ref08_Weight : Cal PP 71 := ⟨_, Try.func71, by kernel_rfl, by kernel_rfl⟩
theorem c_ref16_Count : Cal PP 72 := ⟨_, Try.func72, by kernel_rfl, by kernel_rfl⟩
theorem c_strings_Builder_copyCheck : Cal PP 73 := ⟨_, Try.func73, by kernel_rfl, by kernel_rfl⟩
theorem c_checked_Mul : Cal PP 74 := ⟨_, Try.func74, by kernel_rfl, by kernel_rfl⟩
theorem c_checked_Sum : Cal PP 75 := ⟨_, Try.func75, by kernel_rfl, by kernel_rfl⟩
theorem c_ref06_Mul : Cal PP 76 := ⟨_, Try.func76, by kernel_rfl, by kernel_rfl⟩
theorem c_ref06_Add : Cal PP 77 := ⟨_, Try.func77, by kernel_rfl, by kernel_rfl⟩
theorem c_seq_Seq_Pairs : Cal PP 78 := ⟨_, Try.func78, by kernel_rfl, by kernel_rfl⟩
theorem c_seq_Seq_pair : Cal PP 79 := ⟨_, Try.func79, by kernel_rfl, by kernel_rfl⟩
theorem c_seq_Seq_join : Cal PP 80 := ⟨_, Try.func80, by kernel_rfl, by kernel_rfl⟩
theorem c_seq_ledger_list : Cal PP 81 := ⟨_, Try.func81, by kernel_rfl, by kernel_rfl⟩
theorem c_checked_within : Cal PP 86 := ⟨_, Try.func86, by kernel_rfl, by kernel_rfl⟩
theorem c_math_bits_Mul64 : Cal PP 87 := ⟨_, Try.func87, by kernel_rfl, by kernel_rfl⟩
theorem c_checked_Add : Cal PP 88 := ⟨_, Try.func88, by kernel_rfl, by kernel_rfl⟩
theorem c_seq_Seq_note : Cal PP 89 := ⟨_, Try.func89, by kernel_rfl, by kernel_rfl⟩
theorem c_slices_SortFunc_seq_Change_seq_Change : Cal PP 90 := ⟨_, Try.func90, by kernel_rfl, by kernel_rfl⟩
theorem c_cmp_Or_int : Cal PP 92 := ⟨_, Try.func92, by kernel_rfl, by kernel_rfl⟩
theorem c_cmp_Compare_int : Cal PP 93 := ⟨_, Try.func93, by kernel_rfl, by kernel_rfl⟩
theorem c_seq_ledger_add : Cal PP 105 := ⟨_, Try.func105, by kernel_rfl, by kernel_rfl⟩
theorem c_cmp_isNaN_int : Cal PP 107 := ⟨_, Try.func107, by kernel_rfl, by kernel_rfl⟩
theorem c_cmp_isNaN_string : Cal PP 113 := ⟨_, Try.func113, by kernel_rfl, by kernel_rfl⟩
theorem i_int : TI PP 3 (.int .i64 0) 1 8 := by unfold TI; kernel_rfl
theorem i_bool : TI PP 4 (.bool false) 1 1 := by unfold TI; kernel_rfl
theorem i_uint8 : TI PP 5 (.int .u8 0) 1 1 := by unfold TI; kernel_rfl
theorem i_string : TI PP 9 (.string (⟨#[]⟩ : ByteArray)) 1 16 := by unfold TI; kernel_rfl
theorem i_sl_string : TI PP 37 (.slice none 0 0) 1 24 := by unfold TI; kernel_rfl
theorem i_api_Word : TI PP 56 (.agg #[.string (⟨#[]⟩ : ByteArray), .int .i64 0]) 2 24 := by unfold TI; kernel_rfl
theorem i_api_Merge : TI PP 70 (.agg #[.string (⟨#[]⟩ : ByteArray), .string (⟨#[]⟩ : ByteArray)]) 2 32 := by unfold TI; kernel_rfl
theorem i_map_string_int : TI PP 73 (.map none) 1 8 := by unfold TI; kernel_rfl
theorem i_vocab_Vocab : TI PP 75 (.agg #[.map none, .map none, .int .i64 0]) 3 24 := by unfold TI; kernel_rfl
theorem i_sl_uint8 : TI PP 76 (.slice none 0 0) 1 24 := by unfold TI; kernel_rfl
theorem i_p_sym_Table : TI PP 86 (.pointer none) 1 8 := by unfold TI; kernel_rfl
theorem i_map_api_Pair_int : TI PP 88 (.map none) 1 8 := by unfold TI; kernel_rfl
theorem i_apply_Coder : TI PP 90 (.agg #[.pointer none, .map none]) 2 16 := by unfold TI; kernel_rfl
theorem i_api_Pair : TI PP 94 (.agg #[.int .i64 0, .int .i64 0]) 2 16 := by unfold TI; kernel_rfl
theorem i_strings_Builder : TI PP 98 (.agg #[.pointer none, .slice none 0 0]) 2 32 := by unfold TI; kernel_rfl
theorem i_sl_sym_joined : TI PP 116 (.slice none 0 0) 1 24 := by unfold TI; kernel_rfl
theorem i_sym_Table : TI PP 118 (.agg #[.slice none 0 0, .map none]) 2 32 := by unfold TI; kernel_rfl
theorem i_sym_joined : TI PP 120 (.agg #[.int .i64 0, .int .i64 0, .string (⟨#[]⟩ : ByteArray)]) 3 32 := by unfold TI; kernel_rfl
theorem i_sl_seq_cell : TI PP 124 (.slice none 0 0) 1 24 := by unfold TI; kernel_rfl
theorem i_seq_Seq : TI PP 126 (.agg #[.slice none 0 0, .int .i64 0, .int .i64 0]) 3 40 := by unfold TI; kernel_rfl
theorem i_seq_cell : TI PP 128 (.agg #[.int .i64 0, .int .i64 0, .int .i64 0]) 3 24 := by unfold TI; kernel_rfl
theorem i_seq_Change : TI PP 131 (.agg #[.int .i64 0, .int .i64 0, .int .i64 0]) 3 24 := by unfold TI; kernel_rfl
theorem ke_string : KeyE PP 9 strV := key_str Try.underlying9
theorem ke_api_Pair : KeyE PP 94 pairV := key_pair Try.underlying94 rfl rfl rfl rfl rfl rfl Try.underlying3 (by kernel_rfl)
theorem eqf_api_Merge : PP.stoodInHeld 70 = false ∧ PP.eqGuardType PP.depth 70 = false := ⟨by kernel_rfl, by kernel_rfl⟩
theorem eqf_api_Pair : PP.stoodInHeld 94 = false ∧ PP.eqGuardType PP.depth 94 = false := ⟨by kernel_rfl, by kernel_rfl⟩
section
variable {n : Nat} {f : Env} {w : World} {K : Env → World → Prop} {ty : TypeId} {pos : String} {af : Array Edge} {d : Nat} {gd : Option (Nat × Bool)} {x y : Operand} {b o o' j : Nat}
theorem al_bool {cs : Array Value} (hz : (.bool false : Value).cells = cs) (h : ∀ b w1, New w b (.cells cs 4 (0, 0)) w1 → K (upd f d (.pointer (some ⟨b, 0, none⟩))) w1) : OK PP n ⟨some d, .alloc 4, ty, pos, af, gd⟩ f w K := ok_al i_bool hz h
theorem st_bool {v : Value} {vs : List Value} (hx : evn n f x = .pointer (some ⟨b, o, none⟩)) (hy : evn n f y = v) (hv : v.cells = vs.toArray) (hl : vs.length = 1) (h1 : vs.all (·.oneCell') = true) (hw : Wr w b o 1) (h : ∀ w1, w1 = setCells w b o vs → K f w1) : OK PP n ⟨none, .store 4 x y, ty, pos, af, gd⟩ f w K := ok_st i_bool hx hy hv hl h1 hw h
theorem al_sl_string {cs : Array Value} (hz : (.slice none 0 0 : Value).cells = cs) (h : ∀ b w1, New w b (.cells cs 37 (0, 0)) w1 → K (upd f d (.pointer (some ⟨b, 0, none⟩))) w1) : OK PP n ⟨some d, .alloc 37, ty, pos, af, gd⟩ f w K := ok_al i_sl_string hz h
theorem st_sl_string {v : Value} {vs : List Value} (hx : evn n f x = .pointer (some ⟨b, o, none⟩)) (hy : evn n f y = v) (hv : v.cells = vs.toArray) (hl : vs.length = 1) (h1 : vs.all (·.oneCell') = true) (hw : Wr w b o 1) (h : ∀ w1, w1 = setCells w b o vs → K f w1) : OK PP n ⟨none, .store 37 x y, ty, pos, af, gd⟩ f w K := ok_st i_sl_string hx hy hv hl h1 hw h
theorem al_int {cs : Array Value} (hz : (.int .i64 0 : Value).cells = cs) (h : ∀ b w1, New w b (.cells cs 3 (0, 0)) w1 → K (upd f d (.pointer (some ⟨b, 0, none⟩))) w1) : OK PP n ⟨some d, .alloc 3, ty, pos, af, gd⟩ f w K := ok_al i_int hz h
theorem st_int {v : Value} {vs : List Value} (hx : evn n f x = .pointer (some ⟨b, o, none⟩)) (hy : evn n f y = v) (hv : v.cells = vs.toArray) (hl : vs.length = 1) (h1 : vs.all (·.oneCell') = true) (hw : Wr w b o 1) (h : ∀ w1, w1 = setCells w b o vs → K f w1) : OK PP n ⟨none, .store 3 x y, ty, pos, af, gd⟩ f w K := ok_st i_int hx hy hv hl h1 hw h
theorem ld_int {a : Addr} {v : Value} (hx : evn n f x = .pointer (some a)) (hc : w.cell? a = some v) : RV PP n f w ⟨some d, .load 3 x, ty, pos, af, gd⟩ v := r_ld Try.underlying3 rfl hx hc
theorem ld_sl_string {a : Addr} {v : Value} (hx : evn n f x = .pointer (some a)) (hc : w.cell? a = some v) : RV PP n f w ⟨some d, .load 37 x, ty, pos, af, gd⟩ v := r_ld Try.underlying37 rfl hx hc
theorem ia_sl_string {s : Sl} {k : IntKind} (hx : evn n f x = s.v) (hy : evn n f y = .int k (j : Nat)) (hj : j < s.n) (hb : s.b = some ⟨b, o, none⟩) (ho : o + j * 1 = o') : RV PP n f w ⟨some d, .indexAddr 37 x y, ty, pos, af, gd⟩ (.pointer (some ⟨b, o', none⟩)) := r_ia Try.underlying37 i_string hx hy hj hb ho
theorem ld_string {a : Addr} {v : Value} (hx : evn n f x = .pointer (some a)) (hc : w.cell? a = some v) : RV PP n f w ⟨some d, .load 9 x, ty, pos, af, gd⟩ v := r_ld Try.underlying9 rfl hx hc
theorem bx_uint8 {v : Value} {cs : Array Value} (hx : evn n f x = v) (hv : v.cells = cs) (h : ∀ b w1, New w b (.cells cs 5 (0, 0)) w1 → K (upd f d (.pointer (some ⟨b, 0, none⟩))) w1) : OK PP n ⟨some d, .box 5 x, ty, pos, af, gd⟩ f w K := ok_bx hx hv h
theorem ld_uint8 {a : Addr} {v : Value} (hx : evn n f x = .pointer (some a)) (hc : w.cell? a = some v) : RV PP n f w ⟨some d, .load 5 x, ty, pos, af, gd⟩ v := r_ld Try.underlying5 rfl hx hc
theorem ia_sl_api_Word {s : Sl} {k : IntKind} (hx : evn n f x = s.v) (hy : evn n f y = .int k (j : Nat)) (hj : j < s.n) (hb : s.b = some ⟨b, o, none⟩) (ho : o + j * 2 = o') : RV PP n f w ⟨some d, .indexAddr 46 x y, ty, pos, af, gd⟩ (.pointer (some ⟨b, o', none⟩)) := r_ia Try.underlying46 i_api_Word hx hy hj hb ho
theorem fa_api_Word_0 (hx : evn n f x = .pointer (some ⟨b, o, none⟩)) (ho : o + 0 = o') : RV PP n f w ⟨some d, .fieldAddr 56 x 0, ty, pos, af, gd⟩ (.pointer (some ⟨b, o', none⟩)) := r_fa Try.underlying56 rfl rfl i_string rfl hx ho
theorem ia_sl_sl_string {s : Sl} {k : IntKind} (hx : evn n f x = s.v) (hy : evn n f y = .int k (j : Nat)) (hj : j < s.n) (hb : s.b = some ⟨b, o, none⟩) (ho : o + j * 1 = o') : RV PP n f w ⟨some d, .indexAddr 53 x y, ty, pos, af, gd⟩ (.pointer (some ⟨b, o', none⟩)) := r_ia Try.underlying53 i_sl_string hx hy hj hb ho
theorem bd_api_Merge {ps : List (Nat × Operand)} {vs : List (Nat × Value)} {cs : Array Value} (hv : ps.map (fun p => (p.1, evn n f p.2)) = vs) (hf : Instr.fill ((#[(0, 1), (1, 1)] : Array (Nat × Nat))[·]?) (.agg #[.string (⟨#[]⟩ : ByteArray), .string (⟨#[]⟩ : ByteArray)] : Value).cells vs = some cs) : RV PP n f w ⟨some d, .build 70 ps.toArray, ty, pos, af, gd⟩ (.agg cs) := r_bd Try.underlying70 i_api_Merge (fun _ => by kernel_rfl) hv hf
theorem bs_sl_api_Merge {len : Nat} {ps : List (Nat × Operand)} {vs : List (Nat × Value)} {cs : Array Value} (hl : len * 2 ≤ 2 ^ 24) (hv : ps.map (fun p => (p.1, evn n f p.2)) = vs) (hf : Instr.fill (fun i => some (i * 2, 2)) (zr (.agg #[.string (⟨#[]⟩ : ByteArray), .string (⟨#[]⟩ : ByteArray)] : Value).cells.toList (len * 2)) vs = some cs) (h : ∀ b w1, New w b (.cells cs 70 (0, 0)) w1 → K (upd f d (.slice (some ⟨b, 0, none⟩) len len)) w1) : OK PP n ⟨some d, .buildSlice 22 len ps.toArray, ty, pos, af, gd⟩ f w K := ok_bs Try.underlying22 i_api_Merge rfl hl hv hf h
theorem bs_sl_string {len : Nat} {ps : List (Nat × Operand)} {vs : List (Nat × Value)} {cs : Array Value} (hl : len * 1 ≤ 2 ^ 24) (hv : ps.map (fun p => (p.1, evn n f p.2)) = vs) (hf : Instr.fill (fun i => some (i * 1, 1)) (zr (.string (⟨#[]⟩ : ByteArray) : Value).cells.toList (len * 1)) vs = some cs) (h : ∀ b w1, New w b (.cells cs 9 (0, 0)) w1 → K (upd f d (.slice (some ⟨b, 0, none⟩) len len)) w1) : OK PP n ⟨some d, .buildSlice 37 len ps.toArray, ty, pos, af, gd⟩ f w K := ok_bs Try.underlying37 i_string rfl hl hv hf h
theorem ia_sl_api_Merge {s : Sl} {k : IntKind} (hx : evn n f x = s.v) (hy : evn n f y = .int k (j : Nat)) (hj : j < s.n) (hb : s.b = some ⟨b, o, none⟩) (ho : o + j * 2 = o') : RV PP n f w ⟨some d, .indexAddr 22 x y, ty, pos, af, gd⟩ (.pointer (some ⟨b, o', none⟩)) := r_ia Try.underlying22 i_api_Merge hx hy hj hb ho
theorem fa_api_Merge_0 (hx : evn n f x = .pointer (some ⟨b, o, none⟩)) (ho : o + 0 = o') : RV PP n f w ⟨some d, .fieldAddr 70 x 0, ty, pos, af, gd⟩ (.pointer (some ⟨b, o', none⟩)) := r_fa Try.underlying70 rfl rfl i_string rfl hx ho
theorem fa_api_Merge_1 (hx : evn n f x = .pointer (some ⟨b, o, none⟩)) (ho : o + 1 = o') : RV PP n f w ⟨some d, .fieldAddr 70 x 1, ty, pos, af, gd⟩ (.pointer (some ⟨b, o', none⟩)) := r_fa Try.underlying70 rfl rfl i_string rfl hx ho
theorem bd_vocab_Vocab {ps : List (Nat × Operand)} {vs : List (Nat × Value)} {cs : Array Value} (hv : ps.map (fun p => (p.1, evn n f p.2)) = vs) (hf : Instr.fill ((#[(0, 1), (1, 1), (2, 1)] : Array (Nat × Nat))[·]?) (.agg #[.map none, .map none, .int .i64 0] : Value).cells vs = some cs) : RV PP n f w ⟨some d, .build 75 ps.toArray, ty, pos, af, gd⟩ (.agg cs) := r_bd Try.underlying75 i_vocab_Vocab (fun _ => by kernel_rfl) hv hf
theorem bx_vocab_Vocab {v : Value} {cs : Array Value} (hx : evn n f x = v) (hv : v.cells = cs) (h : ∀ b w1, New w b (.cells cs 75 (0, 0)) w1 → K (upd f d (.pointer (some ⟨b, 0, none⟩))) w1) : OK PP n ⟨some d, .box 75 x, ty, pos, af, gd⟩ f w K := ok_bx hx hv h
theorem fa_vocab_Vocab_0 (hx : evn n f x = .pointer (some ⟨b, o, none⟩)) (ho : o + 0 = o') : RV PP n f w ⟨some d, .fieldAddr 75 x 0, ty, pos, af, gd⟩ (.pointer (some ⟨b, o', none⟩)) := r_fa Try.underlying75 rfl rfl i_map_string_int rfl hx ho
theorem ld_map_string_int {a : Addr} {v : Value} (hx : evn n f x = .pointer (some a)) (hc : w.cell? a = some v) : RV PP n f w ⟨some d, .load 73 x, ty, pos, af, gd⟩ v := r_ld Try.underlying73 rfl hx hc
theorem bs_sl_uint8 {len : Nat} {ps : List (Nat × Operand)} {vs : List (Nat × Value)} {cs : Array Value} (hl : len * 1 ≤ 2 ^ 24) (hv : ps.map (fun p => (p.1, evn n f p.2)) = vs) (hf : Instr.fill (fun i => some (i * 1, 1)) (zr (.int .u8 0 : Value).cells.toList (len * 1)) vs = some cs) (h : ∀ b w1, New w b (.cells cs 5 (0, 0)) w1 → K (upd f d (.slice (some ⟨b, 0, none⟩) len len)) w1) : OK PP n ⟨some d, .buildSlice 76 len ps.toArray, ty, pos, af, gd⟩ f w K := ok_bs Try.underlying76 i_uint8 rfl hl hv hf h
theorem mu_map_string_int {b : Nat} {es : List (ByteArray × Int)} {a : ByteArray} {c : Int} {v : Operand} (hx : evn n f x = .map (some b)) (hy : evn n f y = strV a) (hv : evn n f v = intV c) (hm : Mp strV intV w (some b) es) (h : ∀ w1, Mp strV intV w1 (some b) (mput a c es) → Chg (fun x => x = b) w w1 → K f w1) : OK PP n ⟨none, .mapUpdate 73 x y v, ty, pos, af, gd⟩ f w K := ok_mu Try.underlying73 ke_string hx hy hv hm h
theorem lda_api_Merge {vs : List Value} (hx : evn n f x = .pointer (some ⟨b, o, none⟩)) (hl : vs.length = 2) (hc : Cells w b o vs) : RV PP n f w ⟨some d, .load 70 x, ty, pos, af, gd⟩ (.agg vs.toArray) := r_lda Try.underlying70 rfl i_api_Merge hx hl hc
theorem al_api_Merge {cs : Array Value} (hz : (.agg #[.string (⟨#[]⟩ : ByteArray), .string (⟨#[]⟩ : ByteArray)] : Value).cells = cs) (h : ∀ b w1, New w b (.cells cs 70 (0, 0)) w1 → K (upd f d (.pointer (some ⟨b, 0, none⟩))) w1) : OK PP n ⟨some d, .alloc 70, ty, pos, af, gd⟩ f w K := ok_al i_api_Merge hz h
theorem st_api_Merge {v : Value} {vs : List Value} (hx : evn n f x = .pointer (some ⟨b, o, none⟩)) (hy : evn n f y = v) (hv : v.cells = vs.toArray) (hl : vs.length = 2) (h1 : vs.all (·.oneCell') = true) (hw : Wr w b o 2) (h : ∀ w1, w1 = setCells w b o vs → K f w1) : OK PP n ⟨none, .store 70 x y, ty, pos, af, gd⟩ f w K := ok_st i_api_Merge hx hy hv hl h1 hw h
theorem lk_map_string_int {m : Option Nat} {es : List (ByteArray × Int)} {a : ByteArray} (hx : evn n f x = .map m) (hy : evn n f y = strV a) (hm : Mp strV intV w m es) : RV PP n f w ⟨some d, .lookup 73 x y false, ty, pos, af, gd⟩ (intV ((mget a es).getD 0)) := r_lk Try.underlying73 ke_string i_int hx hy hm
theorem fa_vocab_Vocab_1 (hx : evn n f x = .pointer (some ⟨b, o, none⟩)) (ho : o + 1 = o') : RV PP n f w ⟨some d, .fieldAddr 75 x 1, ty, pos, af, gd⟩ (.pointer (some ⟨b, o', none⟩)) := r_fa Try.underlying75 rfl rfl i_map_string_int rfl hx ho
theorem fa_vocab_Vocab_2 (hx : evn n f x = .pointer (some ⟨b, o, none⟩)) (ho : o + 2 = o') : RV PP n f w ⟨some d, .fieldAddr 75 x 2, ty, pos, af, gd⟩ (.pointer (some ⟨b, o', none⟩)) := r_fa Try.underlying75 rfl rfl i_int rfl hx ho
theorem sl_sl_api_Merge {lo hi : Option Operand} {s : Sl} {l h : Nat} (hx : evn n f x = s.v) (hl : lo.map (evn n f) = if lo.isSome then some (.int .i64 (l : Nat)) else none) (hh : hi.map (evn n f) = if hi.isSome then some (.int .i64 (h : Nat)) else none) (hl0 : lo.isSome = false → l = 0) (hh0 : hi.isSome = false → h = s.n) (h1 : l ≤ h ∧ h ≤ s.c) : RV PP n f w ⟨some d, .slice 22 x lo hi none, ty, pos, af, gd⟩ (s.sub l h 2).v := r_sl hx Try.underlying22 i_api_Merge hl hh hl0 hh0 h1
theorem lko_map_string_int {m : Option Nat} {es : List (ByteArray × Int)} {a : ByteArray} (hx : evn n f x = .map m) (hy : evn n f y = strV a) (hm : Mp strV intV w m es) : RV PP n f w ⟨some d, .lookup 73 x y true, ty, pos, af, gd⟩ (.tuple #[intV ((mget a es).getD 0), .bool (mget a es).isSome]) := r_lko Try.underlying73 ke_string i_int hx hy hm
theorem ap_sl_string {wv : World} {s : Sl} {xs : List Value} {ab ao m c : Nat} {news : List Value} (hx : evn n f x = s.v) (hy : evn n f y = .slice (some ⟨ab, ao, none⟩) m c) (X : Ext wv w) (hown : Own wv 9 1 s xs) (hc : Cells w ab ao news) (hl : news.length = m * 1) (h1 : news.all (·.oneCell') = true) (hb : (s.n + m) * 16 ≤ 140737488355328 ∧ s.n + m ≤ maxLen) (h : ∀ s' w1, App wv 9 1 s xs m news s' w1 → Chg (fun b => s.blk = some b) w w1 → K (upd f d s'.v) w1) : OK PP n ⟨some d, .call { callee := .builtin .append, args := #[x, y], argTypes := #[37, 37] }, ty, pos, af, gd⟩ f w K := ok_app Try.underlying37 i_string rfl rfl hx hy X hown hc hl h1 hb h
theorem sl_sl_string {lo hi : Option Operand} {s : Sl} {l h : Nat} (hx : evn n f x = s.v) (hl : lo.map (evn n f) = if lo.isSome then some (.int .i64 (l : Nat)) else none) (hh : hi.map (evn n f) = if hi.isSome then some (.int .i64 (h : Nat)) else none) (hl0 : lo.isSome = false → l = 0) (hh0 : hi.isSome = false → h = s.n) (h1 : l ≤ h ∧ h ≤ s.c) : RV PP n f w ⟨some d, .slice 37 x lo hi none, ty, pos, af, gd⟩ (s.sub l h 1).v := r_sl hx Try.underlying37 i_string hl hh hl0 hh0 h1
theorem bs_sl_int {len : Nat} {ps : List (Nat × Operand)} {vs : List (Nat × Value)} {cs : Array Value} (hl : len * 1 ≤ 2 ^ 24) (hv : ps.map (fun p => (p.1, evn n f p.2)) = vs) (hf : Instr.fill (fun i => some (i * 1, 1)) (zr (.int .i64 0 : Value).cells.toList (len * 1)) vs = some cs) (h : ∀ b w1, New w b (.cells cs 3 (0, 0)) w1 → K (upd f d (.slice (some ⟨b, 0, none⟩) len len)) w1) : OK PP n ⟨some d, .buildSlice 58 len ps.toArray, ty, pos, af, gd⟩ f w K := ok_bs Try.underlying58 i_int rfl hl hv hf h
theorem bs_sl_sl_string {len : Nat} {ps : List (Nat × Operand)} {vs : List (Nat × Value)} {cs : Array Value} (hl : len * 1 ≤ 2 ^ 24) (hv : ps.map (fun p => (p.1, evn n f p.2)) = vs) (hf : Instr.fill (fun i => some (i * 1, 1)) (zr (.slice none 0 0 : Value).cells.toList (len * 1)) vs = some cs) (h : ∀ b w1, New w b (.cells cs 37 (0, 0)) w1 → K (upd f d (.slice (some ⟨b, 0, none⟩) len len)) w1) : OK PP n ⟨some d, .buildSlice 53 len ps.toArray, ty, pos, af, gd⟩ f w K := ok_bs Try.underlying53 i_sl_string rfl hl hv hf h
theorem ap_sl_sl_string {wv : World} {s : Sl} {xs : List Value} {ab ao m c : Nat} {news : List Value} (hx : evn n f x = s.v) (hy : evn n f y = .slice (some ⟨ab, ao, none⟩) m c) (X : Ext wv w) (hown : Own wv 37 1 s xs) (hc : Cells w ab ao news) (hl : news.length = m * 1) (h1 : news.all (·.oneCell') = true) (hb : (s.n + m) * 24 ≤ 140737488355328 ∧ s.n + m ≤ maxLen) (h : ∀ s' w1, App wv 37 1 s xs m news s' w1 → Chg (fun b => s.blk = some b) w w1 → K (upd f d s'.v) w1) : OK PP n ⟨some d, .call { callee := .builtin .append, args := #[x, y], argTypes := #[53, 53] }, ty, pos, af, gd⟩ f w K := ok_app Try.underlying53 i_sl_string rfl rfl hx hy X hown hc hl h1 hb h
theorem fa_api_Word_1 (hx : evn n f x = .pointer (some ⟨b, o, none⟩)) (ho : o + 1 = o') : RV PP n f w ⟨some d, .fieldAddr 56 x 1, ty, pos, af, gd⟩ (.pointer (some ⟨b, o', none⟩)) := r_fa Try.underlying56 rfl rfl i_int rfl hx ho
theorem ap_sl_int {wv : World} {s : Sl} {xs : List Value} {ab ao m c : Nat} {news : List Value} (hx : evn n f x = s.v) (hy : evn n f y = .slice (some ⟨ab, ao, none⟩) m c) (X : Ext wv w) (hown : Own wv 3 1 s xs) (hc : Cells w ab ao news) (hl : news.length = m * 1) (h1 : news.all (·.oneCell') = true) (hb : (s.n + m) * 8 ≤ 140737488355328 ∧ s.n + m ≤ maxLen) (h : ∀ s' w1, App wv 3 1 s xs m news s' w1 → Chg (fun b => s.blk = some b) w w1 → K (upd f d s'.v) w1) : OK PP n ⟨some d, .call { callee := .builtin .append, args := #[x, y], argTypes := #[58, 58] }, ty, pos, af, gd⟩ f w K := ok_app Try.underlying58 i_int rfl rfl hx hy X hown hc hl h1 hb h
theorem ap_sl_api_Merge {wv : World} {s : Sl} {xs : List Value} {ab ao m c : Nat} {news : List Value} (hx : evn n f x = s.v) (hy : evn n f y = .slice (some ⟨ab, ao, none⟩) m c) (X : Ext wv w) (hown : Own wv 70 2 s xs) (hc : Cells w ab ao news) (hl : news.length = m * 2) (h1 : news.all (·.oneCell') = true) (hb : (s.n + m) * 32 ≤ 140737488355328 ∧ s.n + m ≤ maxLen) (h : ∀ s' w1, App wv 70 2 s xs m news s' w1 → Chg (fun b => s.blk = some b) w w1 → K (upd f d s'.v) w1) : OK PP n ⟨some d, .call { callee := .builtin .append, args := #[x, y], argTypes := #[22, 22] }, ty, pos, af, gd⟩ f w K := ok_app Try.underlying22 i_api_Merge rfl rfl hx hy X hown hc hl h1 hb h
theorem bd_apply_Coder {ps : List (Nat × Operand)} {vs : List (Nat × Value)} {cs : Array Value} (hv : ps.map (fun p => (p.1, evn n f p.2)) = vs) (hf : Instr.fill ((#[(0, 1), (1, 1)] : Array (Nat × Nat))[·]?) (.agg #[.pointer none, .map none] : Value).cells vs = some cs) : RV PP n f w ⟨some d, .build 90 ps.toArray, ty, pos, af, gd⟩ (.agg cs) := r_bd Try.underlying90 i_apply_Coder (fun _ => by kernel_rfl) hv hf
theorem bx_apply_Coder {v : Value} {cs : Array Value} (hx : evn n f x = v) (hv : v.cells = cs) (h : ∀ b w1, New w b (.cells cs 90 (0, 0)) w1 → K (upd f d (.pointer (some ⟨b, 0, none⟩))) w1) : OK PP n ⟨some d, .box 90 x, ty, pos, af, gd⟩ f w K := ok_bx hx hv h
theorem fa_apply_Coder_0 (hx : evn n f x = .pointer (some ⟨b, o, none⟩)) (ho : o + 0 = o') : RV PP n f w ⟨some d, .fieldAddr 90 x 0, ty, pos, af, gd⟩ (.pointer (some ⟨b, o', none⟩)) := r_fa Try.underlying90 rfl rfl i_p_sym_Table rfl hx ho
theorem ld_p_sym_Table {a : Addr} {v : Value} (hx : evn n f x = .pointer (some a)) (hc : w.cell? a = some v) : RV PP n f w ⟨some d, .load 86 x, ty, pos, af, gd⟩ v := r_ld Try.underlying86 rfl hx hc
theorem fa_apply_Coder_1 (hx : evn n f x = .pointer (some ⟨b, o, none⟩)) (ho : o + 1 = o') : RV PP n f w ⟨some d, .fieldAddr 90 x 1, ty, pos, af, gd⟩ (.pointer (some ⟨b, o', none⟩)) := r_fa Try.underlying90 rfl rfl i_map_api_Pair_int rfl hx ho
theorem ld_map_api_Pair_int {a : Addr} {v : Value} (hx : evn n f x = .pointer (some a)) (hc : w.cell? a = some v) : RV PP n f w ⟨some d, .load 88 x, ty, pos, af, gd⟩ v := r_ld Try.underlying88 rfl hx hc
theorem bd_api_Pair {ps : List (Nat × Operand)} {vs : List (Nat × Value)} {cs : Array Value} (hv : ps.map (fun p => (p.1, evn n f p.2)) = vs) (hf : Instr.fill ((#[(0, 1), (1, 1)] : Array (Nat × Nat))[·]?) (.agg #[.int .i64 0, .int .i64 0] : Value).cells vs = some cs) : RV PP n f w ⟨some d, .build 94 ps.toArray, ty, pos, af, gd⟩ (.agg cs) := r_bd Try.underlying94 i_api_Pair (fun _ => by kernel_rfl) hv hf
theorem mu_map_api_Pair_int {b : Nat} {es : List ((Int × Int) × Int)} {a : (Int × Int)} {c : Int} {v : Operand} (hx : evn n f x = .map (some b)) (hy : evn n f y = pairV a) (hv : evn n f v = intV c) (hm : Mp pairV intV w (some b) es) (h : ∀ w1, Mp pairV intV w1 (some b) (mput a c es) → Chg (fun x => x = b) w w1 → K f w1) : OK PP n ⟨none, .mapUpdate 88 x y v, ty, pos, af, gd⟩ f w K := ok_mu Try.underlying88 ke_api_Pair hx hy hv hm h
theorem ia_sl_int {s : Sl} {k : IntKind} (hx : evn n f x = s.v) (hy : evn n f y = .int k (j : Nat)) (hj : j < s.n) (hb : s.b = some ⟨b, o, none⟩) (ho : o + j * 1 = o') : RV PP n f w ⟨some d, .indexAddr 58 x y, ty, pos, af, gd⟩ (.pointer (some ⟨b, o', none⟩)) := r_ia Try.underlying58 i_int hx hy hj hb ho
theorem al_strings_Builder {cs : Array Value} (hz : (.agg #[.pointer none, .slice none 0 0] : Value).cells = cs) (h : ∀ b w1, New w b (.cells cs 98 (0, 0)) w1 → K (upd f d (.pointer (some ⟨b, 0, none⟩))) w1) : OK PP n ⟨some d, .alloc 98, ty, pos, af, gd⟩ f w K := ok_al i_strings_Builder hz h
theorem lda_api_Word {vs : List Value} (hx : evn n f x = .pointer (some ⟨b, o, none⟩)) (hl : vs.length = 2) (hc : Cells w b o vs) : RV PP n f w ⟨some d, .load 56 x, ty, pos, af, gd⟩ (.agg vs.toArray) := r_lda Try.underlying56 rfl i_api_Word hx hl hc
theorem al_api_Word {cs : Array Value} (hz : (.agg #[.string (⟨#[]⟩ : ByteArray), .int .i64 0] : Value).cells = cs) (h : ∀ b w1, New w b (.cells cs 56 (0, 0)) w1 → K (upd f d (.pointer (some ⟨b, 0, none⟩))) w1) : OK PP n ⟨some d, .alloc 56, ty, pos, af, gd⟩ f w K := ok_al i_api_Word hz h
theorem st_api_Word {v : Value} {vs : List Value} (hx : evn n f x = .pointer (some ⟨b, o, none⟩)) (hy : evn n f y = v) (hv : v.cells = vs.toArray) (hl : vs.length = 2) (h1 : vs.all (·.oneCell') = true) (hw : Wr w b o 2) (h : ∀ w1, w1 = setCells w b o vs → K f w1) : OK PP n ⟨none, .store 56 x y, ty, pos, af, gd⟩ f w K := ok_st i_api_Word hx hy hv hl h1 hw h
theorem al_api_Pair {cs : Array Value} (hz : (.agg #[.int .i64 0, .int .i64 0] : Value).cells = cs) (h : ∀ b w1, New w b (.cells cs 94 (0, 0)) w1 → K (upd f d (.pointer (some ⟨b, 0, none⟩))) w1) : OK PP n ⟨some d, .alloc 94, ty, pos, af, gd⟩ f w K := ok_al i_api_Pair hz h
theorem st_api_Pair {v : Value} {vs : List Value} (hx : evn n f x = .pointer (some ⟨b, o, none⟩)) (hy : evn n f y = v) (hv : v.cells = vs.toArray) (hl : vs.length = 2) (h1 : vs.all (·.oneCell') = true) (hw : Wr w b o 2) (h : ∀ w1, w1 = setCells w b o vs → K f w1) : OK PP n ⟨none, .store 94 x y, ty, pos, af, gd⟩ f w K := ok_st i_api_Pair hx hy hv hl h1 hw h
theorem lda_api_Pair {vs : List Value} (hx : evn n f x = .pointer (some ⟨b, o, none⟩)) (hl : vs.length = 2) (hc : Cells w b o vs) : RV PP n f w ⟨some d, .load 94 x, ty, pos, af, gd⟩ (.agg vs.toArray) := r_lda Try.underlying94 rfl i_api_Pair hx hl hc
theorem bx_sl_string {v : Value} {cs : Array Value} (hx : evn n f x = v) (hv : v.cells = cs) (h : ∀ b w1, New w b (.cells cs 37 (0, 0)) w1 → K (upd f d (.pointer (some ⟨b, 0, none⟩))) w1) : OK PP n ⟨some d, .box 37 x, ty, pos, af, gd⟩ f w K := ok_bx hx hv h
theorem bx_api_Merge {v : Value} {cs : Array Value} (hx : evn n f x = v) (hv : v.cells = cs) (h : ∀ b w1, New w b (.cells cs 70 (0, 0)) w1 → K (upd f d (.pointer (some ⟨b, 0, none⟩))) w1) : OK PP n ⟨some d, .box 70 x, ty, pos, af, gd⟩ f w K := ok_bx hx hv h
theorem bd_sym_Table {ps : List (Nat × Operand)} {vs : List (Nat × Value)} {cs : Array Value} (hv : ps.map (fun p => (p.1, evn n f p.2)) = vs) (hf : Instr.fill ((#[(0, 1), (1, 1)] : Array (Nat × Nat))[·]?) (.agg #[.slice none 0 0, .map none] : Value).cells vs = some cs) : RV PP n f w ⟨some d, .build 118 ps.toArray, ty, pos, af, gd⟩ (.agg cs) := r_bd Try.underlying118 i_sym_Table (fun _ => by kernel_rfl) hv hf
theorem bx_sym_Table {v : Value} {cs : Array Value} (hx : evn n f x = v) (hv : v.cells = cs) (h : ∀ b w1, New w b (.cells cs 118 (0, 0)) w1 → K (upd f d (.pointer (some ⟨b, 0, none⟩))) w1) : OK PP n ⟨some d, .box 118 x, ty, pos, af, gd⟩ f w K := ok_bx hx hv h
theorem fa_sym_Table_1 (hx : evn n f x = .pointer (some ⟨b, o, none⟩)) (ho : o + 1 = o') : RV PP n f w ⟨some d, .fieldAddr 118 x 1, ty, pos, af, gd⟩ (.pointer (some ⟨b, o', none⟩)) := r_fa Try.underlying118 rfl rfl i_map_string_int rfl hx ho
theorem st_map_string_int {v : Value} {vs : List Value} (hx : evn n f x = .pointer (some ⟨b, o, none⟩)) (hy : evn n f y = v) (hv : v.cells = vs.toArray) (hl : vs.length = 1) (h1 : vs.all (·.oneCell') = true) (hw : Wr w b o 1) (h : ∀ w1, w1 = setCells w b o vs → K f w1) : OK PP n ⟨none, .store 73 x y, ty, pos, af, gd⟩ f w K := ok_st i_map_string_int hx hy hv hl h1 hw h
theorem fa_sym_Table_0 (hx : evn n f x = .pointer (some ⟨b, o, none⟩)) (ho : o + 0 = o') : RV PP n f w ⟨some d, .fieldAddr 118 x 0, ty, pos, af, gd⟩ (.pointer (some ⟨b, o', none⟩)) := r_fa Try.underlying118 rfl rfl i_sl_sym_joined rfl hx ho
theorem ld_sl_sym_joined {a : Addr} {v : Value} (hx : evn n f x = .pointer (some a)) (hc : w.cell? a = some v) : RV PP n f w ⟨some d, .load 116 x, ty, pos, af, gd⟩ v := r_ld Try.underlying116 rfl hx hc
theorem bd_sym_joined {ps : List (Nat × Operand)} {vs : List (Nat × Value)} {cs : Array Value} (hv : ps.map (fun p => (p.1, evn n f p.2)) = vs) (hf : Instr.fill ((#[(0, 2), (2, 1)] : Array (Nat × Nat))[·]?) (.agg #[.int .i64 0, .int .i64 0, .string (⟨#[]⟩ : ByteArray)] : Value).cells vs = some cs) : RV PP n f w ⟨some d, .build 120 ps.toArray, ty, pos, af, gd⟩ (.agg cs) := r_bd Try.underlying120 i_sym_joined (fun _ => by kernel_rfl) hv hf
theorem bs_sl_sym_joined {len : Nat} {ps : List (Nat × Operand)} {vs : List (Nat × Value)} {cs : Array Value} (hl : len * 3 ≤ 2 ^ 24) (hv : ps.map (fun p => (p.1, evn n f p.2)) = vs) (hf : Instr.fill (fun i => some (i * 3, 3)) (zr (.agg #[.int .i64 0, .int .i64 0, .string (⟨#[]⟩ : ByteArray)] : Value).cells.toList (len * 3)) vs = some cs) (h : ∀ b w1, New w b (.cells cs 120 (0, 0)) w1 → K (upd f d (.slice (some ⟨b, 0, none⟩) len len)) w1) : OK PP n ⟨some d, .buildSlice 116 len ps.toArray, ty, pos, af, gd⟩ f w K := ok_bs Try.underlying116 i_sym_joined rfl hl hv hf h
theorem ap_sl_sym_joined {wv : World} {s : Sl} {xs : List Value} {ab ao m c : Nat} {news : List Value} (hx : evn n f x = s.v) (hy : evn n f y = .slice (some ⟨ab, ao, none⟩) m c) (X : Ext wv w) (hown : Own wv 120 3 s xs) (hc : Cells w ab ao news) (hl : news.length = m * 3) (h1 : news.all (·.oneCell') = true) (hb : (s.n + m) * 32 ≤ 140737488355328 ∧ s.n + m ≤ maxLen) (h : ∀ s' w1, App wv 120 3 s xs m news s' w1 → Chg (fun b => s.blk = some b) w w1 → K (upd f d s'.v) w1) : OK PP n ⟨some d, .call { callee := .builtin .append, args := #[x, y], argTypes := #[116, 116] }, ty, pos, af, gd⟩ f w K := ok_app Try.underlying116 i_sym_joined rfl rfl hx hy X hown hc hl h1 hb h
theorem st_sl_sym_joined {v : Value} {vs : List Value} (hx : evn n f x = .pointer (some ⟨b, o, none⟩)) (hy : evn n f y = v) (hv : v.cells = vs.toArray) (hl : vs.length = 1) (h1 : vs.all (·.oneCell') = true) (hw : Wr w b o 1) (h : ∀ w1, w1 = setCells w b o vs → K f w1) : OK PP n ⟨none, .store 116 x y, ty, pos, af, gd⟩ f w K := ok_st i_sl_sym_joined hx hy hv hl h1 hw h
theorem ia_sl_sym_joined {s : Sl} {k : IntKind} (hx : evn n f x = s.v) (hy : evn n f y = .int k (j : Nat)) (hj : j < s.n) (hb : s.b = some ⟨b, o, none⟩) (ho : o + j * 3 = o') : RV PP n f w ⟨some d, .indexAddr 116 x y, ty, pos, af, gd⟩ (.pointer (some ⟨b, o', none⟩)) := r_ia Try.underlying116 i_sym_joined hx hy hj hb ho
theorem fa_sym_joined_1 (hx : evn n f x = .pointer (some ⟨b, o, none⟩)) (ho : o + 2 = o') : RV PP n f w ⟨some d, .fieldAddr 120 x 1, ty, pos, af, gd⟩ (.pointer (some ⟨b, o', none⟩)) := r_fa Try.underlying120 rfl rfl i_string rfl hx ho
theorem fa_strings_Builder_1 (hx : evn n f x = .pointer (some ⟨b, o, none⟩)) (ho : o + 1 = o') : RV PP n f w ⟨some d, .fieldAddr 98 x 1, ty, pos, af, gd⟩ (.pointer (some ⟨b, o', none⟩)) := r_fa Try.underlying98 rfl rfl i_sl_uint8 rfl hx ho
theorem ld_sl_uint8 {a : Addr} {v : Value} (hx : evn n f x = .pointer (some a)) (hc : w.cell? a = some v) : RV PP n f w ⟨some d, .load 76 x, ty, pos, af, gd⟩ v := r_ld Try.underlying76 rfl hx hc
theorem aps_sl_uint8_9 {wv : World} {s : Sl} {xs : List Value} {q : ByteArray} (hx : evn n f x = s.v) (hy : evn n f y = .string q) (X : Ext wv w) (hown : Own wv 5 1 s xs) (hb : s.n + q.size ≤ 140737488355328) (h : ∀ s' w1, App wv 5 1 s xs q.size (q.data.toList.map byV) s' w1 → Chg (fun b => s.blk = some b) w w1 → K (upd f d s'.v) w1) : OK PP n ⟨some d, .call { callee := .builtin .append, args := #[x, y], argTypes := #[76, 9] }, ty, pos, af, gd⟩ f w K := ok_aps Try.underlying76 Try.underlying9 i_uint8 hx hy X hown hb h
theorem st_sl_uint8 {v : Value} {vs : List Value} (hx : evn n f x = .pointer (some ⟨b, o, none⟩)) (hy : evn n f y = v) (hv : v.cells = vs.toArray) (hl : vs.length = 1) (h1 : vs.all (·.oneCell') = true) (hw : Wr w b o 1) (h : ∀ w1, w1 = setCells w b o vs → K f w1) : OK PP n ⟨none, .store 76 x y, ty, pos, af, gd⟩ f w K := ok_st i_sl_uint8 hx hy hv hl h1 hw h
theorem bd_seq_Seq {ps : List (Nat × Operand)} {vs : List (Nat × Value)} {cs : Array Value} (hv : ps.map (fun p => (p.1, evn n f p.2)) = vs) (hf : Instr.fill ((#[(0, 1), (1, 1), (2, 1)] : Array (Nat × Nat))[·]?) (.agg #[.slice none 0 0, .int .i64 0, .int .i64 0] : Value).cells vs = some cs) : RV PP n f w ⟨some d, .build 126 ps.toArray, ty, pos, af, gd⟩ (.agg cs) := r_bd Try.underlying126 i_seq_Seq (fun _ => by kernel_rfl) hv hf
theorem bx_seq_Seq {v : Value} {cs : Array Value} (hx : evn n f x = v) (hv : v.cells = cs) (h : ∀ b w1, New w b (.cells cs 126 (0, 0)) w1 → K (upd f d (.pointer (some ⟨b, 0, none⟩))) w1) : OK PP n ⟨some d, .box 126 x, ty, pos, af, gd⟩ f w K := ok_bx hx hv h
theorem ia_sl_uint8 {s : Sl} {k : IntKind} (hx : evn n f x = s.v) (hy : evn n f y = .int k (j : Nat)) (hj : j < s.n) (hb : s.b = some ⟨b, o, none⟩) (ho : o + j * 1 = o') : RV PP n f w ⟨some d, .indexAddr 76 x y, ty, pos, af, gd⟩ (.pointer (some ⟨b, o', none⟩)) := r_ia Try.underlying76 i_uint8 hx hy hj hb ho
theorem fa_seq_Seq_0 (hx : evn n f x = .pointer (some ⟨b, o, none⟩)) (ho : o + 0 = o') : RV PP n f w ⟨some d, .fieldAddr 126 x 0, ty, pos, af, gd⟩ (.pointer (some ⟨b, o', none⟩)) := r_fa Try.underlying126 rfl rfl i_sl_seq_cell rfl hx ho
theorem ld_sl_seq_cell {a : Addr} {v : Value} (hx : evn n f x = .pointer (some a)) (hc : w.cell? a = some v) : RV PP n f w ⟨some d, .load 124 x, ty, pos, af, gd⟩ v := r_ld Try.underlying124 rfl hx hc
theorem bd_seq_cell {ps : List (Nat × Operand)} {vs : List (Nat × Value)} {cs : Array Value} (hv : ps.map (fun p => (p.1, evn n f p.2)) = vs) (hf : Instr.fill ((#[(0, 1), (1, 1), (2, 1)] : Array (Nat × Nat))[·]?) (.agg #[.int .i64 0, .int .i64 0, .int .i64 0] : Value).cells vs = some cs) : RV PP n f w ⟨some d, .build 128 ps.toArray, ty, pos, af, gd⟩ (.agg cs) := r_bd Try.underlying128 i_seq_cell (fun _ => by kernel_rfl) hv hf
theorem bs_sl_seq_cell {len : Nat} {ps : List (Nat × Operand)} {vs : List (Nat × Value)} {cs : Array Value} (hl : len * 3 ≤ 2 ^ 24) (hv : ps.map (fun p => (p.1, evn n f p.2)) = vs) (hf : Instr.fill (fun i => some (i * 3, 3)) (zr (.agg #[.int .i64 0, .int .i64 0, .int .i64 0] : Value).cells.toList (len * 3)) vs = some cs) (h : ∀ b w1, New w b (.cells cs 128 (0, 0)) w1 → K (upd f d (.slice (some ⟨b, 0, none⟩) len len)) w1) : OK PP n ⟨some d, .buildSlice 124 len ps.toArray, ty, pos, af, gd⟩ f w K := ok_bs Try.underlying124 i_seq_cell rfl hl hv hf h
theorem ap_sl_seq_cell {wv : World} {s : Sl} {xs : List Value} {ab ao m c : Nat} {news : List Value} (hx : evn n f x = s.v) (hy : evn n f y = .slice (some ⟨ab, ao, none⟩) m c) (X : Ext wv w) (hown : Own wv 128 3 s xs) (hc : Cells w ab ao news) (hl : news.length = m * 3) (h1 : news.all (·.oneCell') = true) (hb : (s.n + m) * 24 ≤ 140737488355328 ∧ s.n + m ≤ maxLen) (h : ∀ s' w1, App wv 128 3 s xs m news s' w1 → Chg (fun b => s.blk = some b) w w1 → K (upd f d s'.v) w1) : OK PP n ⟨some d, .call { callee := .builtin .append, args := #[x, y], argTypes := #[124, 124] }, ty, pos, af, gd⟩ f w K := ok_app Try.underlying124 i_seq_cell rfl rfl hx hy X hown hc hl h1 hb h
theorem st_sl_seq_cell {v : Value} {vs : List Value} (hx : evn n f x = .pointer (some ⟨b, o, none⟩)) (hy : evn n f y = v) (hv : v.cells = vs.toArray) (hl : vs.length = 1) (h1 : vs.all (·.oneCell') = true) (hw : Wr w b o 1) (h : ∀ w1, w1 = setCells w b o vs → K f w1) : OK PP n ⟨none, .store 124 x y, ty, pos, af, gd⟩ f w K := ok_st i_sl_seq_cell hx hy hv hl h1 hw h
theorem fa_seq_Seq_1 (hx : evn n f x = .pointer (some ⟨b, o, none⟩)) (ho : o + 1 = o') : RV PP n f w ⟨some d, .fieldAddr 126 x 1, ty, pos, af, gd⟩ (.pointer (some ⟨b, o', none⟩)) := r_fa Try.underlying126 rfl rfl i_int rfl hx ho
theorem ia_sl_seq_cell {s : Sl} {k : IntKind} (hx : evn n f x = s.v) (hy : evn n f y = .int k (j : Nat)) (hj : j < s.n) (hb : s.b = some ⟨b, o, none⟩) (ho : o + j * 3 = o') : RV PP n f w ⟨some d, .indexAddr 124 x y, ty, pos, af, gd⟩ (.pointer (some ⟨b, o', none⟩)) := r_ia Try.underlying124 i_seq_cell hx hy hj hb ho
theorem fa_seq_cell_2 (hx : evn n f x = .pointer (some ⟨b, o, none⟩)) (ho : o + 2 = o') : RV PP n f w ⟨some d, .fieldAddr 128 x 2, ty, pos, af, gd⟩ (.pointer (some ⟨b, o', none⟩)) := r_fa Try.underlying128 rfl rfl i_int rfl hx ho
theorem ia_sl_seq_Change {s : Sl} {k : IntKind} (hx : evn n f x = s.v) (hy : evn n f y = .int k (j : Nat)) (hj : j < s.n) (hb : s.b = some ⟨b, o, none⟩) (ho : o + j * 3 = o') : RV PP n f w ⟨some d, .indexAddr 110 x y, ty, pos, af, gd⟩ (.pointer (some ⟨b, o', none⟩)) := r_ia Try.underlying110 i_seq_Change hx hy hj hb ho
theorem lda_seq_Change {vs : List Value} (hx : evn n f x = .pointer (some ⟨b, o, none⟩)) (hl : vs.length = 3) (hc : Cells w b o vs) : RV PP n f w ⟨some d, .load 131 x, ty, pos, af, gd⟩ (.agg vs.toArray) := r_lda Try.underlying131 rfl i_seq_Change hx hl hc
theorem al_seq_Change {cs : Array Value} (hz : (.agg #[.int .i64 0, .int .i64 0, .int .i64 0] : Value).cells = cs) (h : ∀ b w1, New w b (.cells cs 131 (0, 0)) w1 → K (upd f d (.pointer (some ⟨b, 0, none⟩))) w1) : OK PP n ⟨some d, .alloc 131, ty, pos, af, gd⟩ f w K := ok_al i_seq_Change hz h
theorem st_seq_Change {v : Value} {vs : List Value} (hx : evn n f x = .pointer (some ⟨b, o, none⟩)) (hy : evn n f y = v) (hv : v.cells = vs.toArray) (hl : vs.length = 3) (h1 : vs.all (·.oneCell') = true) (hw : Wr w b o 3) (h : ∀ w1, w1 = setCells w b o vs → K f w1) : OK PP n ⟨none, .store 131 x y, ty, pos, af, gd⟩ f w K := ok_st i_seq_Change hx hy hv hl h1 hw h
theorem fa_seq_Change_0 (hx : evn n f x = .pointer (some ⟨b, o, none⟩)) (ho : o + 0 = o') : RV PP n f w ⟨some d, .fieldAddr 131 x 0, ty, pos, af, gd⟩ (.pointer (some ⟨b, o', none⟩)) := r_fa Try.underlying131 rfl rfl i_api_Pair rfl hx ho
theorem lko_map_api_Pair_int {m : Option Nat} {es : List ((Int × Int) × Int)} {a : (Int × Int)} (hx : evn n f x = .map m) (hy : evn n f y = pairV a) (hm : Mp pairV intV w m es) : RV PP n f w ⟨some d, .lookup 88 x y true, ty, pos, af, gd⟩ (.tuple #[intV ((mget a es).getD 0), .bool (mget a es).isSome]) := r_lko Try.underlying88 ke_api_Pair i_int hx hy hm
theorem fa_seq_cell_0 (hx : evn n f x = .pointer (some ⟨b, o, none⟩)) (ho : o + 0 = o') : RV PP n f w ⟨some d, .fieldAddr 128 x 0, ty, pos, af, gd⟩ (.pointer (some ⟨b, o', none⟩)) := r_fa Try.underlying128 rfl rfl i_int rfl hx ho
theorem bx_api_Pair {v : Value} {cs : Array Value} (hx : evn n f x = v) (hv : v.cells = cs) (h : ∀ b w1, New w b (.cells cs 94 (0, 0)) w1 → K (upd f d (.pointer (some ⟨b, 0, none⟩))) w1) : OK PP n ⟨some d, .box 94 x, ty, pos, af, gd⟩ f w K := ok_bx hx hv h
theorem fa_seq_cell_1 (hx : evn n f x = .pointer (some ⟨b, o, none⟩)) (ho : o + 1 = o') : RV PP n f w ⟨some d, .fieldAddr 128 x 1, ty, pos, af, gd⟩ (.pointer (some ⟨b, o', none⟩)) := r_fa Try.underlying128 rfl rfl i_int rfl hx ho
theorem fa_seq_Seq_2 (hx : evn n f x = .pointer (some ⟨b, o, none⟩)) (ho : o + 2 = o') : RV PP n f w ⟨some d, .fieldAddr 126 x 2, ty, pos, af, gd⟩ (.pointer (some ⟨b, o', none⟩)) := r_fa Try.underlying126 rfl rfl i_int rfl hx ho
theorem rg_seq_ledger {m : Option Nat} {es : List ((Int × Int) × Int)} (hx : evn n f x = .map m) (hm : Mp pairV intV w m es) (h : ∀ r w1, Ext w w1 → w.heap.size ≤ r → Itr pairV intV w1 r m es es none → K (upd f d (.pointer (some ⟨r, 0, none⟩))) w1) : OK PP n ⟨some d, .range 132 x, ty, pos, af, gd⟩ f w K := ok_rg Try.underlying132 hx hm h
theorem bd_seq_Change {ps : List (Nat × Operand)} {vs : List (Nat × Value)} {cs : Array Value} (hv : ps.map (fun p => (p.1, evn n f p.2)) = vs) (hf : Instr.fill ((#[(0, 2), (2, 1)] : Array (Nat × Nat))[·]?) (.agg #[.int .i64 0, .int .i64 0, .int .i64 0] : Value).cells vs = some cs) : RV PP n f w ⟨some d, .build 131 ps.toArray, ty, pos, af, gd⟩ (.agg cs) := r_bd Try.underlying131 i_seq_Change (fun _ => by kernel_rfl) hv hf
theorem bs_sl_seq_Change {len : Nat} {ps : List (Nat × Operand)} {vs : List (Nat × Value)} {cs : Array Value} (hl : len * 3 ≤ 2 ^ 24) (hv : ps.map (fun p => (p.1, evn n f p.2)) = vs) (hf : Instr.fill (fun i => some (i * 3, 3)) (zr (.agg #[.int .i64 0, .int .i64 0, .int .i64 0] : Value).cells.toList (len * 3)) vs = some cs) (h : ∀ b w1, New w b (.cells cs 131 (0, 0)) w1 → K (upd f d (.slice (some ⟨b, 0, none⟩) len len)) w1) : OK PP n ⟨some d, .buildSlice 110 len ps.toArray, ty, pos, af, gd⟩ f w K := ok_bs Try.underlying110 i_seq_Change rfl hl hv hf h
theorem ap_sl_seq_Change {wv : World} {s : Sl} {xs : List Value} {ab ao m c : Nat} {news : List Value} (hx : evn n f x = s.v) (hy : evn n f y = .slice (some ⟨ab, ao, none⟩) m c) (X : Ext wv w) (hown : Own wv 131 3 s xs) (hc : Cells w ab ao news) (hl : news.length = m * 3) (h1 : news.all (·.oneCell') = true) (hb : (s.n + m) * 24 ≤ 140737488355328 ∧ s.n + m ≤ maxLen) (h : ∀ s' w1, App wv 131 3 s xs m news s' w1 → Chg (fun b => s.blk = some b) w w1 → K (upd f d s'.v) w1) : OK PP n ⟨some d, .call { callee := .builtin .append, args := #[x, y], argTypes := #[110, 110] }, ty, pos, af, gd⟩ f w K := ok_app Try.underlying110 i_seq_Change rfl rfl hx hy X hown hc hl h1 hb h
theorem bx_seq_Change {v : Value} {cs : Array Value} (hx : evn n f x = v) (hv : v.cells = cs) (h : ∀ b w1, New w b (.cells cs 131 (0, 0)) w1 → K (upd f d (.pointer (some ⟨b, 0, none⟩))) w1) : OK PP n ⟨some d, .box 131 x, ty, pos, af, gd⟩ f w K := ok_bx hx hv h
theorem fa_api_Pair_0 (hx : evn n f x = .pointer (some ⟨b, o, none⟩)) (ho : o + 0 = o') : RV PP n f w ⟨some d, .fieldAddr 94 x 0, ty, pos, af, gd⟩ (.pointer (some ⟨b, o', none⟩)) := r_fa Try.underlying94 rfl rfl i_int rfl hx ho
theorem fa_api_Pair_1 (hx : evn n f x = .pointer (some ⟨b, o, none⟩)) (ho : o + 1 = o') : RV PP n f w ⟨some d, .fieldAddr 94 x 1, ty, pos, af, gd⟩ (.pointer (some ⟨b, o', none⟩)) := r_fa Try.underlying94 rfl rfl i_int rfl hx ho
theorem lk_seq_ledger {m : Option Nat} {es : List ((Int × Int) × Int)} {a : (Int × Int)} (hx : evn n f x = .map m) (hy : evn n f y = pairV a) (hm : Mp pairV intV w m es) : RV PP n f w ⟨some d, .lookup 132 x y false, ty, pos, af, gd⟩ (intV ((mget a es).getD 0)) := r_lk Try.underlying132 ke_api_Pair i_int hx hy hm
theorem me_seq_ledger {b : Nat} {es : List ((Int × Int) × Int)} {a : (Int × Int)} (hx : evn n f x = .map (some b)) (hy : evn n f y = pairV a) (hm : Mp pairV intV w (some b) es) (h : ∀ w1 st, MpE pairV intV w1 b (mput a ((mget a es).getD 0) es) a st → Chg (fun x => x = b) w w1 → K (upd f d (.tuple #[intV ((mget a es).getD 0), .int .i64 st])) w1) : OK PP n ⟨some d, .mapEntry 132 x y, ty, pos, af, gd⟩ f w K := ok_me Try.underlying132 ke_api_Pair i_int hx hy hm h
theorem es_seq_ledger {b : Nat} {es : List ((Int × Int) × Int)} {a : (Int × Int)} {c : Int} {st : Int} {v : Operand} (hx : evn n f x = .map (some b)) (hy : evn n f y = .int .i64 st) (hv : evn n f v = intV c) (hm : MpE pairV intV w b es a st) (h : ∀ w1, Mp pairV intV w1 (some b) (mput a c es) → Chg (fun x => x = b) w w1 → K f w1) : OK PP n ⟨none, .entryStore 132 x y v, ty, pos, af, gd⟩ f w K := ok_es hx hy hv hm h
theorem de_seq_ledger {m : Option Nat} {es : List ((Int × Int) × Int)} {a : (Int × Int)} {dd : Option Nat} (hx : evn n f x = .map m) (hy : evn n f y = pairV a) (hm : Mp pairV intV w m es) (h : ∀ w1, Mp pairV intV w1 m (mdel a es) → Chg (fun x => m = some x) w w1 → K (updo f dd (.tuple #[])) w1) {ats : Array TypeId} (ha : ats[0]? = some 132 := by rfl) : OK PP n ⟨dd, .call { callee := .builtin .delete, args := #[x, y], argTypes := ats }, ty, pos, af, gd⟩ f w K := ok_del ha Try.underlying132 ke_api_Pair hx hy hm h
end
end Go.Proofs.Ytchjcjocihckpaa.G
