/- The names of this program: its types and functions, and what the operations ask of them. -/
import Derived.Test.YtcgeeddhneopfaaGm
import Derived.Test.YtcgeeddhneopfaaProg
import Derived.KernelRfl
namespace Go.Proofs.Ytcgeeddhneopfaa.G
open Go Go.RowKit
noncomputable abbrev PP : Program := Try.prog
theorem mo : PP.follows .mixedOrders = true := by kernel_rfl
abbrev t_int : TypeId := 3
abbrev t_bool : TypeId := 4
abbrev t_uint8 : TypeId := 5
abbrev t_string : TypeId := 9
abbrev t_sl_api_Merge : TypeId := 22
abbrev t_sl_string : TypeId := 37
abbrev t_api_Params : TypeId := 47
abbrev t_sl_api_Word : TypeId := 50
abbrev t_sl_sl_string : TypeId := 64
abbrev t_api_Word : TypeId := 67
abbrev t_sl_int : TypeId := 69
abbrev t_api_Merge : TypeId := 81
abbrev t_map_string_int : TypeId := 83
abbrev t_vocab_Vocab : TypeId := 85
abbrev t_sl_uint8 : TypeId := 86
abbrev t_p_sym_Table : TypeId := 103
abbrev t_map_api_Pair_int : TypeId := 105
abbrev t_apply_Coder : TypeId := 107
abbrev t_api_Pair : TypeId := 111
abbrev t_strings_Builder : TypeId := 115
abbrev t_sl_seq_Change : TypeId := 127
abbrev t_freq_Counter : TypeId := 133
abbrev t_sl_sym_joined : TypeId := 138
abbrev t_sym_Table : TypeId := 140
abbrev t_sym_joined : TypeId := 142
abbrev t_sl_seq_cell : TypeId := 145
abbrev t_seq_Seq : TypeId := 147
abbrev t_seq_cell : TypeId := 149
abbrev t_seq_Change : TypeId := 152
abbrev n_law08_TableOf : FuncId := 5
abbrev n_law20_ApplyLearnt : FuncId := 6
abbrev n_law20_ApplyCodes : FuncId := 7
abbrev n_law20_ApplyBack : FuncId := 8
abbrev n_law21_awake : FuncId := 9
abbrev n_ref18_Great : FuncId := 10
abbrev n_vocab_New : FuncId := 11
abbrev n_ref18_Check : FuncId := 12
abbrev n_vocab_Vocab_Has : FuncId := 13
abbrev n_ref21_Has : FuncId := 14
abbrev n_vocab_Vocab_Depth : FuncId := 15
abbrev n_ref21_Depth : FuncId := 16
abbrev n_vocab_Vocab_Uses : FuncId := 17
abbrev n_ref21_Uses : FuncId := 18
abbrev n_vocab_Vocab_Len : FuncId := 19
abbrev n_ref01_Texts : FuncId := 20
abbrev n_vocab_Vocab_Longest : FuncId := 21
abbrev n_ref21_Longest : FuncId := 22
abbrev n_ref21_Texts : FuncId := 23
abbrev n_vocab_Vocab_Texts : FuncId := 24
abbrev n_law08_awake : FuncId := 25
abbrev n_table_Params : FuncId := 26
abbrev n_ref08_Params : FuncId := 27
abbrev n_table_Of : FuncId := 28
abbrev n_table_Check : FuncId := 29
abbrev n_ref07_Same : FuncId := 30
abbrev n_ref07_Of : FuncId := 31
abbrev n_law20_awake : FuncId := 32
abbrev n_ref07_Great : FuncId := 33
abbrev n_ref08_Positions : FuncId := 34
abbrev n_ref16_Learn : FuncId := 35
abbrev n_apply_New : FuncId := 36
abbrev n_ref17_Words : FuncId := 37
abbrev n_apply_Coder_Split : FuncId := 38
abbrev n_apply_Coder_Decode : FuncId := 39
abbrev n_ref20_Decode : FuncId := 40
abbrev n_apply_Coder_Count : FuncId := 41
abbrev n_ref20_Count : FuncId := 42
abbrev n_ref20_Split : FuncId := 43
abbrev n_ref01_Ints : FuncId := 44
abbrev n_apply_Coder_Encode : FuncId := 45
abbrev n_ref20_Encode : FuncId := 46
abbrev n_apply_Coder_Size : FuncId := 47
abbrev n_file_Check : FuncId := 48
abbrev n_ref18_side : FuncId := 49
abbrev n_ref21_made : FuncId := 50
abbrev n_ref01_Less : FuncId := 51
abbrev n_vocab_Vocab_Texts_c1 : FuncId := 52
abbrev n_slices_Values_string_string : FuncId := 53
abbrev n_slices_Sorted_string : FuncId := 54
abbrev n_maps_Keys_map_string_int_string_int : FuncId := 55
abbrev n_table_Weight : FuncId := 56
abbrev n_table_Positions : FuncId := 57
abbrev n_freq_New : FuncId := 58
abbrev n_freq_Counter_AddAll : FuncId := 59
abbrev n_freq_Counter_Freeze : FuncId := 60
abbrev n_table_wrong : FuncId := 61
abbrev n_ref07_Add : FuncId := 62
abbrev n_ref08_Check : FuncId := 63
abbrev n_ref16_Texts : FuncId := 64
abbrev n_ref16_Best : FuncId := 65
abbrev n_ref16_Join : FuncId := 66
abbrev n_sym_New : FuncId := 67
abbrev n_sym_Table_Find : FuncId := 68
abbrev n_sym_Table_Join : FuncId := 69
abbrev n_sym_Table_Text : FuncId := 70
abbrev n_strings_Builder_WriteString : FuncId := 71
abbrev n_strings_Builder_String : FuncId := 72
abbrev n_checked_Dot : FuncId := 73
abbrev n_ref06_Dot : FuncId := 74
abbrev n_seq_New : FuncId := 75
abbrev n_apply_Coder_next : FuncId := 76
abbrev n_seq_Seq_Symbols : FuncId := 77
abbrev n_seq_Seq_Merge : FuncId := 78
abbrev n_ref20_Symbol : FuncId := 79
abbrev n_sym_Table_Len : FuncId := 80
abbrev n_file_join : FuncId := 81
abbrev n_freq_Counter_Add : FuncId := 86
abbrev n_ref06_Add : FuncId := 87
abbrev n_ref07_Count : FuncId := 88
abbrev n_ref08_Weight : FuncId := 89
abbrev n_ref16_Count : FuncId := 90
abbrev n_checked_Mul : FuncId := 92
abbrev n_checked_Sum : FuncId := 93
abbrev n_ref06_Mul : FuncId := 94
abbrev n_seq_Seq_Pairs : FuncId := 95
abbrev n_seq_Seq_pair : FuncId := 96
abbrev n_seq_Seq_join : FuncId := 97
abbrev n_seq_ledger_list : FuncId := 98
abbrev n_checked_Add : FuncId := 102
abbrev n_checked_within : FuncId := 104
abbrev n_math_bits_Mul64 : FuncId := 105
abbrev n_seq_Seq_note : FuncId := 106
abbrev n_seq_ledger_list_c1 : FuncId := 108
abbrev n_cmp_Or_int : FuncId := 109
abbrev n_cmp_Compare_int : FuncId := 110
abbrev n_seq_ledger_add : FuncId := 122
theorem c_law21_awake : Cal PP 9 := ⟨_, Try.func9, by kernel_rfl, by kernel_rfl⟩
theorem c_ref18_Great : Cal PP 10 := ⟨_, Try.func10, by kernel_rfl, by kernel_rfl⟩
theorem c_vocab_New : Cal PP 11 := ⟨_, Try.func11, by kernel_rfl, by kernel_rfl⟩
theorem c_ref18_Check : Cal PP 12 := ⟨_, Try.func12, by kernel_rfl, by kernel_rfl⟩
theorem c_vocab_Vocab_Has : Cal PP 13 := ⟨_, Try.func13, by kernel_rfl, by kernel_rfl⟩
theorem c_ref21_Has : Cal PP 14 := ⟨_, Try.func14, by kernel_rfl, by kernel_rfl⟩
theorem c_vocab_Vocab_Depth : Cal PP 15 := ⟨_, Try.func15, by kernel_rfl, by kernel_rfl⟩
theorem c_ref21_Depth : Cal PP 16 := ⟨_, Try.func16, by kernel_rfl, by kernel_rfl⟩
theorem c_vocab_Vocab_Uses : Cal PP 17 := ⟨_, Try.func17, by kernel_rfl, by kernel_rfl⟩
theorem c_ref21_Uses : Cal PP 18 := ⟨_, Try.func18, by kernel_rfl, by kernel_rfl⟩
theorem c_vocab_Vocab_Len : Cal PP 19 := ⟨_, Try.func19, by kernel_rfl, by kernel_rfl⟩
theorem c_ref01_Texts : Cal PP 20 := ⟨_, Try.func20, by kernel_rfl, by kernel_rfl⟩
theorem c_vocab_Vocab_Longest : Cal PP 21 := ⟨_, Try.func21, by kernel_rfl, by kernel_rfl⟩
theorem c_ref21_Longest : Cal PP 22 := ⟨_, Try.func22, by kernel_rfl, by kernel_rfl⟩
theorem c_ref21_Texts : Cal PP 23 := ⟨_, Try.func23, by kernel_rfl, by kernel_rfl⟩
theorem c_vocab_Vocab_Texts : Cal PP 24 := ⟨_, Try.func24, by kernel_rfl, by kernel_rfl⟩
theorem c_law08_awake : Cal PP 25 := ⟨_, Try.func25, by kernel_rfl, by kernel_rfl⟩
theorem c_table_Params : Cal PP 26 := ⟨_, Try.func26, by kernel_rfl, by kernel_rfl⟩
theorem c_ref08_Params : Cal PP 27 := ⟨_, Try.func27, by kernel_rfl, by kernel_rfl⟩
theorem c_table_Of : Cal PP 28 := ⟨_, Try.func28, by kernel_rfl, by kernel_rfl⟩
theorem c_table_Check : Cal PP 29 := ⟨_, Try.func29, by kernel_rfl, by kernel_rfl⟩
theorem c_ref07_Same : Cal PP 30 := ⟨_, Try.func30, by kernel_rfl, by kernel_rfl⟩
theorem c_ref07_Of : Cal PP 31 := ⟨_, Try.func31, by kernel_rfl, by kernel_rfl⟩
theorem c_law20_awake : Cal PP 32 := ⟨_, Try.func32, by kernel_rfl, by kernel_rfl⟩
theorem c_ref07_Great : Cal PP 33 := ⟨_, Try.func33, by kernel_rfl, by kernel_rfl⟩
theorem c_ref08_Positions : Cal PP 34 := ⟨_, Try.func34, by kernel_rfl, by kernel_rfl⟩
theorem c_ref16_Learn : Cal PP 35 := ⟨_, Try.func35, by kernel_rfl, by kernel_rfl⟩
theorem c_apply_New : Cal PP 36 := ⟨_, Try.func36, by kernel_rfl, by kernel_rfl⟩
theorem c_ref17_Words : Cal PP 37 := ⟨_, Try.func37, by kernel_rfl, by kernel_rfl⟩
theorem c_apply_Coder_Split : Cal PP 38 := ⟨_, Try.func38, by kernel_rfl, by kernel_rfl⟩
theorem c_apply_Coder_Decode : Cal PP 39 := ⟨_, Try.func39, by kernel_rfl, by kernel_rfl⟩
theorem c_ref20_Decode : Cal PP 40 := ⟨_, Try.func40, by kernel_rfl, by kernel_rfl⟩
theorem c_apply_Coder_Count : Cal PP 41 := ⟨_, Try.func41, by kernel_rfl, by kernel_rfl⟩
theorem c_ref20_Count : Cal PP 42 := ⟨_, Try.func42, by kernel_rfl, by kernel_rfl⟩
theorem c_ref20_Split : Cal PP 43 := ⟨_, Try.func43, by kernel_rfl, by kernel_rfl⟩
theorem c_ref01_Ints : Cal PP 44 := ⟨_, Try.func44, by kernel_rfl, by kernel_rfl⟩
theorem c_apply_Coder_Encode : Cal PP 45 := ⟨_, Try.func45, by kernel_rfl, by kernel_rfl⟩
theorem c_ref20_Encode : Cal PP 46 := ⟨_, Try.func46, by kernel_rfl, by kernel_rfl⟩
theorem c_apply_Coder_Size : Cal PP 47 := ⟨_, Try.func47, by kernel_rfl, by kernel_rfl⟩
theorem c_file_Check : Cal PP 48 := ⟨_, Try.func48, by kernel_rfl, by kernel_rfl⟩
theorem c_ref18_side : Cal PP 49 := ⟨_, Try.func49, by kernel_rfl, by kernel_rfl⟩
theorem c_ref21_made : Cal PP 50 := ⟨_, Try.func50, by kernel_rfl, by kernel_rfl⟩
theorem c_ref01_Less : Cal PP 51 := ⟨_, Try.func51, by kernel_rfl, by kernel_rfl⟩
theorem c_slices_Values_string_string : Cal PP 53 := ⟨_, Try.func53, by kernel_rfl, by kernel_rfl⟩
theorem c_slices_Sorted_string : Cal PP 54 := ⟨_, Try.func54, by kernel_rfl, by kernel_rfl⟩
theorem c_maps_Keys_map_string_int_string_int : Cal PP 55 := ⟨_, Try.func55, by kernel_rfl, by kernel_rfl⟩
theorem c_table_Weight : Cal PP 56 := ⟨_, Try.func56, by kernel_rfl, by kernel_rfl⟩
theorem c_table_Positions : Cal PP 57 := ⟨_, Try.func57, by kernel_rfl, by kernel_rfl⟩
theorem c_freq_New : Cal PP 58 := ⟨_, Try.func58, by kernel_rfl, by kernel_rfl⟩
theorem c_freq_Counter_AddAll : Cal PP 59 := ⟨_, Try.func59, by kernel_rfl, by kernel_rfl⟩
theorem c_freq_Counter_Freeze : Cal PP 60 := ⟨_, Try.func60, by kernel_rfl, by kernel_rfl⟩
theorem c_table_wrong : Cal PP 61 := ⟨_, Try.func61, by kernel_rfl, by kernel_rfl⟩
theorem c_ref07_Add : Cal PP 62 := ⟨_, Try.func62, by kernel_rfl, by kernel_rfl⟩
theorem c_ref08_Check : Cal PP 63 := ⟨_, Try.func63, by kernel_rfl, by kernel_rfl⟩
theorem c_ref16_Texts : Cal PP 64 := ⟨_, Try.func64, by kernel_rfl, by kernel_rfl⟩
theorem c_ref16_Best : Cal PP 65 := ⟨_, Try.func65, by kernel_rfl, by kernel_rfl⟩
theorem c_ref16_Join : Cal PP 66 := ⟨_, Try.func66, by kernel_rfl, by kernel_rfl⟩
theorem c_sym_New : Cal PP 67 := ⟨_, Try.func67, by kernel_rfl, by kernel_rfl⟩
theorem c_sym_Table_Find : Cal PP 68 := ⟨_, Try.func68, by kernel_rfl, by kernel_rfl⟩
theorem c_sym_Table_Join : Cal PP 69 := ⟨_, Try.func69, by kernel_rfl, by kernel_rfl⟩
theorem c_sym_Table_Text : Cal PP 70 := ⟨_, Try.func70, by kernel_rfl, by kernel_rfl⟩
theorem c_strings_Builder_WriteString : Cal PP 71 := ⟨_, Try.func71, by kernel_rfl, by kernel_rfl⟩
theorem c_strings_Builder_String : Cal PP 72 := ⟨_, Try.func72, by kernel_rfl, by kernel_rfl⟩
theorem c_checked_Dot : Cal PP 73 := ⟨_, Try.func73, by kernel_rfl, by kernel_rfl⟩
theorem c_ref06_Dot : Cal PP 74 := ⟨_, Try.func74, by kernel_rfl, by kernel_rfl⟩
theorem c_seq_New : Cal PP 75 := ⟨_, Try.func75, by kernel_rfl, by kernel_rfl⟩
theorem c_apply_Coder_next : Cal PP 76 := ⟨_, Try.func76, by kernel_rfl, by kernel_rfl⟩
theorem c_seq_Seq_Symbols : Cal PP 77 := ⟨_, Try.func77, by kernel_rfl, by kernel_rfl⟩
theorem c_seq_Seq_Merge : Cal PP 78 := ⟨_, Try.func78, by kernel_rfl, by kernel_rfl⟩
theorem c_ref20_Symbol : Cal PP 79 := ⟨_, Try.func79, by kernel_rfl, by kernel_rfl⟩
theorem c_sym_Table_Len : Cal PP 80 := ⟨_, Try.func80, by kernel_rfl, by kernel_rfl⟩
theorem c_file_join : Cal PP 81 := ⟨_, Try.func81, by kernel_rfl, by kernel_rfl⟩
theorem c_freq_Counter_Add : Cal PP 86 := ⟨_, Try.func86, by kernel_rfl, by kernel_rfl⟩
theorem c_ref06_Add : Cal PP 87 := ⟨_, Try.func87, by kernel_rfl, by kernel_rfl⟩
theorem c_ref07_Count : Cal PP 88 := ⟨_, Try.func88, by kernel_rfl, by kernel_rfl⟩
theorem c_ref08_Weight : Cal PP 89 := ⟨_, Try.func89, by kernel_rfl, by kernel_rfl⟩
theorem c_ref16_Count : Cal PP 90 := ⟨_, Try.func90, by kernel_rfl, by kernel_rfl⟩
theorem c_checked_Mul : Cal PP 92 := ⟨_, Try.func92, by kernel_rfl, by kernel_rfl⟩
theorem c_checked_Sum : Cal PP 93 := ⟨_, Try.func93, by kernel_rfl, by kernel_rfl⟩
theorem c_ref06_Mul : Cal PP 94 := ⟨_, Try.func94, by kernel_rfl, by kernel_rfl⟩
theorem c_seq_Seq_Pairs : Cal PP 95 := ⟨_, Try.func95, by kernel_rfl, by kernel_rfl⟩
theorem c_seq_Seq_pair : Cal PP 96 := ⟨_, Try.func96, by kernel_rfl, by kernel_rfl⟩
theorem c_seq_Seq_join : Cal PP 97 := ⟨_, Try.func97, by kernel_rfl, by kernel_rfl⟩
theorem c_seq_ledger_list : Cal PP 98 := ⟨_, Try.func98, by kernel_rfl, by kernel_rfl⟩
theorem c_checked_Add : Cal PP 102 := ⟨_, Try.func102, by kernel_rfl, by kernel_rfl⟩
theorem c_checked_within : Cal PP 104 := ⟨_, Try.func104, by kernel_rfl, by kernel_rfl⟩
theorem c_math_bits_Mul64 : Cal PP 105 := ⟨_, Try.func105, by kernel_rfl, by kernel_rfl⟩
theorem c_seq_Seq_note : Cal PP 106 := ⟨_, Try.func106, by kernel_rfl, by kernel_rfl⟩
theorem c_cmp_Or_int : Cal PP 109 := ⟨_, Try.func109, by kernel_rfl, by kernel_rfl⟩
theorem c_cmp_Compare_int : Cal PP 110 := ⟨_, Try.func110, by kernel_rfl, by kernel_rfl⟩
theorem c_seq_ledger_add : Cal PP 122 := ⟨_, Try.func122, by kernel_rfl, by kernel_rfl⟩
theorem i_int : TI PP 3 (.int .i64 0) 1 8 := by unfold TI; kernel_rfl
theorem i_bool : TI PP 4 (.bool false) 1 1 := by unfold TI; kernel_rfl
theorem i_uint8 : TI PP 5 (.int .u8 0) 1 1 := by unfold TI; kernel_rfl
theorem i_string : TI PP 9 (.string (⟨#[]⟩ : ByteArray)) 1 16 := by unfold TI; kernel_rfl
theorem i_sl_string : TI PP 37 (.slice none 0 0) 1 24 := by unfold TI; kernel_rfl
theorem i_api_Params : TI PP 47 (.agg #[.int .i64 0, .int .i64 0, .int .i64 0]) 3 24 := by unfold TI; kernel_rfl
theorem i_api_Word : TI PP 67 (.agg #[.string (⟨#[]⟩ : ByteArray), .int .i64 0]) 2 24 := by unfold TI; kernel_rfl
theorem i_api_Merge : TI PP 81 (.agg #[.string (⟨#[]⟩ : ByteArray), .string (⟨#[]⟩ : ByteArray)]) 2 32 := by unfold TI; kernel_rfl
theorem i_map_string_int : TI PP 83 (.map none) 1 8 := by unfold TI; kernel_rfl
theorem i_vocab_Vocab : TI PP 85 (.agg #[.map none, .map none, .int .i64 0]) 3 24 := by unfold TI; kernel_rfl
theorem i_p_sym_Table : TI PP 103 (.pointer none) 1 8 := by unfold TI; kernel_rfl
theorem i_map_api_Pair_int : TI PP 105 (.map none) 1 8 := by unfold TI; kernel_rfl
theorem i_apply_Coder : TI PP 107 (.agg #[.pointer none, .map none]) 2 16 := by unfold TI; kernel_rfl
theorem i_api_Pair : TI PP 111 (.agg #[.int .i64 0, .int .i64 0]) 2 16 := by unfold TI; kernel_rfl
theorem i_strings_Builder : TI PP 115 (.agg #[.pointer none, .slice none 0 0]) 2 32 := by unfold TI; kernel_rfl
theorem i_freq_Counter : TI PP 133 (.agg #[.map none]) 1 8 := by unfold TI; kernel_rfl
theorem i_sl_sym_joined : TI PP 138 (.slice none 0 0) 1 24 := by unfold TI; kernel_rfl
theorem i_sym_Table : TI PP 140 (.agg #[.slice none 0 0, .map none]) 2 32 := by unfold TI; kernel_rfl
theorem i_sym_joined : TI PP 142 (.agg #[.int .i64 0, .int .i64 0, .string (⟨#[]⟩ : ByteArray)]) 3 32 := by unfold TI; kernel_rfl
theorem i_sl_seq_cell : TI PP 145 (.slice none 0 0) 1 24 := by unfold TI; kernel_rfl
theorem i_seq_Seq : TI PP 147 (.agg #[.slice none 0 0, .int .i64 0, .int .i64 0]) 3 40 := by unfold TI; kernel_rfl
theorem i_seq_cell : TI PP 149 (.agg #[.int .i64 0, .int .i64 0, .int .i64 0]) 3 24 := by unfold TI; kernel_rfl
theorem i_seq_Change : TI PP 152 (.agg #[.int .i64 0, .int .i64 0, .int .i64 0]) 3 24 := by unfold TI; kernel_rfl
theorem ke_string : KeyE PP 9 strV := key_str Try.underlying9
theorem eqf_api_Word : PP.stoodInHeld 67 = false ∧ PP.eqGuardType PP.depth 67 = false := ⟨by kernel_rfl, by kernel_rfl⟩
theorem ke_api_Pair : KeyE PP 111 pairV := key_pair Try.underlying111 rfl rfl rfl rfl rfl rfl Try.underlying3 (by kernel_rfl)
theorem eqf_api_Merge : PP.stoodInHeld 81 = false ∧ PP.eqGuardType PP.depth 81 = false := ⟨by kernel_rfl, by kernel_rfl⟩
theorem eqf_api_Pair : PP.stoodInHeld 111 = false ∧ PP.eqGuardType PP.depth 111 = false := ⟨by kernel_rfl, by kernel_rfl⟩
section
variable {n : Nat} {f : Env} {w : World} {K : Env → World → Prop} {ty : TypeId} {pos : String} {af : Array Edge} {d : Nat} {gd : Option (Nat × Bool)} {x y : Operand} {b o o' j : Nat}
theorem al_bool {cs : Array Value} (hz : (.bool false : Value).cells = cs) (h : ∀ b w1, New w b (.cells cs 4 (0, 0)) w1 → K (upd f d (.pointer (some ⟨b, 0, none⟩))) w1) : OK PP n ⟨some d, .alloc 4, ty, pos, af, gd⟩ f w K := ok_al i_bool hz h
theorem st_bool {v : Value} {vs : List Value} (hx : evn n f x = .pointer (some ⟨b, o, none⟩)) (hy : evn n f y = v) (hv : v.cells = vs.toArray) (hl : vs.length = 1) (h1 : vs.all (·.oneCell') = true) (hw : Wr w b o 1) (h : ∀ w1, w1 = setCells w b o vs → K f w1) : OK PP n ⟨none, .store 4 x y, ty, pos, af, gd⟩ f w K := ok_st i_bool hx hy hv hl h1 hw h
theorem al_sl_string {cs : Array Value} (hz : (.slice none 0 0 : Value).cells = cs) (h : ∀ b w1, New w b (.cells cs 37 (0, 0)) w1 → K (upd f d (.pointer (some ⟨b, 0, none⟩))) w1) : OK PP n ⟨some d, .alloc 37, ty, pos, af, gd⟩ f w K := ok_al i_sl_string hz h
theorem st_sl_string {v : Value} {vs : List Value} (hx : evn n f x = .pointer (some ⟨b, o, none⟩)) (hy : evn n f y = v) (hv : v.cells = vs.toArray) (hl : vs.length = 1) (h1 : vs.all (·.oneCell') = true) (hw : Wr w b o 1) (h : ∀ w1, w1 = setCells w b o vs → K f w1) : OK PP n ⟨none, .store 37 x y, ty, pos, af, gd⟩ f w K := ok_st i_sl_string hx hy hv hl h1 hw h
theorem al_int {cs : Array Value} (hz : (.int .i64 0 : Value).cells = cs) (h : ∀ b w1, New w b (.cells cs 3 (0, 0)) w1 → K (upd f d (.pointer (some ⟨b, 0, none⟩))) w1) : OK PP n ⟨some d, .alloc 3, ty, pos, af, gd⟩ f w K := ok_al i_int hz h
theorem st_int {v : Value} {vs : List Value} (hx : evn n f x = .pointer (some ⟨b, o, none⟩)) (hy : evn n f y = v) (hv : v.cells = vs.toArray) (hl : vs.length = 1) (h1 : vs.all (·.oneCell') = true) (hw : Wr w b o 1) (h : ∀ w1, w1 = setCells w b o vs → K f w1) : OK PP n ⟨none, .store 3 x y, ty, pos, af, gd⟩ f w K := ok_st i_int hx hy hv hl h1 hw h
theorem bx_uint8 {v : Value} {cs : Array Value} (hx : evn n f x = v) (hv : v.cells = cs) (h : ∀ b w1, New w b (.cells cs 5 (0, 0)) w1 → K (upd f d (.pointer (some ⟨b, 0, none⟩))) w1) : OK PP n ⟨some d, .box 5 x, ty, pos, af, gd⟩ f w K := ok_bx hx hv h
theorem bx_api_Params {v : Value} {cs : Array Value} (hx : evn n f x = v) (hv : v.cells = cs) (h : ∀ b w1, New w b (.cells cs 47 (0, 0)) w1 → K (upd f d (.pointer (some ⟨b, 0, none⟩))) w1) : OK PP n ⟨some d, .box 47 x, ty, pos, af, gd⟩ f w K := ok_bx hx hv h
theorem lda_api_Params {vs : List Value} (hx : evn n f x = .pointer (some ⟨b, o, none⟩)) (hl : vs.length = 3) (hc : Cells w b o vs) : RV PP n f w ⟨some d, .load 47 x, ty, pos, af, gd⟩ (.agg vs.toArray) := r_lda Try.underlying47 rfl i_api_Params hx hl hc
theorem ia_sl_string {s : Sl} {k : IntKind} (hx : evn n f x = s.v) (hy : evn n f y = .int k (j : Nat)) (hj : j < s.n) (hb : s.b = some ⟨b, o, none⟩) (ho : o + j * 1 = o') : RV PP n f w ⟨some d, .indexAddr 37 x y, ty, pos, af, gd⟩ (.pointer (some ⟨b, o', none⟩)) := r_ia Try.underlying37 i_string hx hy hj hb ho
theorem ld_string {a : Addr} {v : Value} (hx : evn n f x = .pointer (some a)) (hc : w.cell? a = some v) : RV PP n f w ⟨some d, .load 9 x, ty, pos, af, gd⟩ v := r_ld Try.underlying9 rfl hx hc
theorem ia_sl_api_Word {s : Sl} {k : IntKind} (hx : evn n f x = s.v) (hy : evn n f y = .int k (j : Nat)) (hj : j < s.n) (hb : s.b = some ⟨b, o, none⟩) (ho : o + j * 2 = o') : RV PP n f w ⟨some d, .indexAddr 50 x y, ty, pos, af, gd⟩ (.pointer (some ⟨b, o', none⟩)) := r_ia Try.underlying50 i_api_Word hx hy hj hb ho
theorem fa_api_Word_0 (hx : evn n f x = .pointer (some ⟨b, o, none⟩)) (ho : o + 0 = o') : RV PP n f w ⟨some d, .fieldAddr 67 x 0, ty, pos, af, gd⟩ (.pointer (some ⟨b, o', none⟩)) := r_fa Try.underlying67 rfl rfl i_string rfl hx ho
theorem ia_sl_sl_string {s : Sl} {k : IntKind} (hx : evn n f x = s.v) (hy : evn n f y = .int k (j : Nat)) (hj : j < s.n) (hb : s.b = some ⟨b, o, none⟩) (ho : o + j * 1 = o') : RV PP n f w ⟨some d, .indexAddr 64 x y, ty, pos, af, gd⟩ (.pointer (some ⟨b, o', none⟩)) := r_ia Try.underlying64 i_sl_string hx hy hj hb ho
theorem ld_sl_string {a : Addr} {v : Value} (hx : evn n f x = .pointer (some a)) (hc : w.cell? a = some v) : RV PP n f w ⟨some d, .load 37 x, ty, pos, af, gd⟩ v := r_ld Try.underlying37 rfl hx hc
theorem bd_api_Merge {ps : List (Nat × Operand)} {vs : List (Nat × Value)} {cs : Array Value} (hv : ps.map (fun p => (p.1, evn n f p.2)) = vs) (hf : Instr.fill ((#[(0, 1), (1, 1)] : Array (Nat × Nat))[·]?) (.agg #[.string (⟨#[]⟩ : ByteArray), .string (⟨#[]⟩ : ByteArray)] : Value).cells vs = some cs) : RV PP n f w ⟨some d, .build 81 ps.toArray, ty, pos, af, gd⟩ (.agg cs) := r_bd Try.underlying81 i_api_Merge (fun _ => by kernel_rfl) hv hf
theorem bs_sl_api_Merge {len : Nat} {ps : List (Nat × Operand)} {vs : List (Nat × Value)} {cs : Array Value} (hl : len * 2 ≤ 2 ^ 24) (hv : ps.map (fun p => (p.1, evn n f p.2)) = vs) (hf : Instr.fill (fun i => some (i * 2, 2)) (zr (.agg #[.string (⟨#[]⟩ : ByteArray), .string (⟨#[]⟩ : ByteArray)] : Value).cells.toList (len * 2)) vs = some cs) (h : ∀ b w1, New w b (.cells cs 81 (0, 0)) w1 → K (upd f d (.slice (some ⟨b, 0, none⟩) len len)) w1) : OK PP n ⟨some d, .buildSlice 22 len ps.toArray, ty, pos, af, gd⟩ f w K := ok_bs Try.underlying22 i_api_Merge rfl hl hv hf h
theorem bs_sl_string {len : Nat} {ps : List (Nat × Operand)} {vs : List (Nat × Value)} {cs : Array Value} (hl : len * 1 ≤ 2 ^ 24) (hv : ps.map (fun p => (p.1, evn n f p.2)) = vs) (hf : Instr.fill (fun i => some (i * 1, 1)) (zr (.string (⟨#[]⟩ : ByteArray) : Value).cells.toList (len * 1)) vs = some cs) (h : ∀ b w1, New w b (.cells cs 9 (0, 0)) w1 → K (upd f d (.slice (some ⟨b, 0, none⟩) len len)) w1) : OK PP n ⟨some d, .buildSlice 37 len ps.toArray, ty, pos, af, gd⟩ f w K := ok_bs Try.underlying37 i_string rfl hl hv hf h
theorem ia_sl_api_Merge {s : Sl} {k : IntKind} (hx : evn n f x = s.v) (hy : evn n f y = .int k (j : Nat)) (hj : j < s.n) (hb : s.b = some ⟨b, o, none⟩) (ho : o + j * 2 = o') : RV PP n f w ⟨some d, .indexAddr 22 x y, ty, pos, af, gd⟩ (.pointer (some ⟨b, o', none⟩)) := r_ia Try.underlying22 i_api_Merge hx hy hj hb ho
theorem fa_api_Merge_0 (hx : evn n f x = .pointer (some ⟨b, o, none⟩)) (ho : o + 0 = o') : RV PP n f w ⟨some d, .fieldAddr 81 x 0, ty, pos, af, gd⟩ (.pointer (some ⟨b, o', none⟩)) := r_fa Try.underlying81 rfl rfl i_string rfl hx ho
theorem fa_api_Merge_1 (hx : evn n f x = .pointer (some ⟨b, o, none⟩)) (ho : o + 1 = o') : RV PP n f w ⟨some d, .fieldAddr 81 x 1, ty, pos, af, gd⟩ (.pointer (some ⟨b, o', none⟩)) := r_fa Try.underlying81 rfl rfl i_string rfl hx ho
theorem bd_vocab_Vocab {ps : List (Nat × Operand)} {vs : List (Nat × Value)} {cs : Array Value} (hv : ps.map (fun p => (p.1, evn n f p.2)) = vs) (hf : Instr.fill ((#[(0, 1), (1, 1), (2, 1)] : Array (Nat × Nat))[·]?) (.agg #[.map none, .map none, .int .i64 0] : Value).cells vs = some cs) : RV PP n f w ⟨some d, .build 85 ps.toArray, ty, pos, af, gd⟩ (.agg cs) := r_bd Try.underlying85 i_vocab_Vocab (fun _ => by kernel_rfl) hv hf
theorem bx_vocab_Vocab {v : Value} {cs : Array Value} (hx : evn n f x = v) (hv : v.cells = cs) (h : ∀ b w1, New w b (.cells cs 85 (0, 0)) w1 → K (upd f d (.pointer (some ⟨b, 0, none⟩))) w1) : OK PP n ⟨some d, .box 85 x, ty, pos, af, gd⟩ f w K := ok_bx hx hv h
theorem fa_vocab_Vocab_0 (hx : evn n f x = .pointer (some ⟨b, o, none⟩)) (ho : o + 0 = o') : RV PP n f w ⟨some d, .fieldAddr 85 x 0, ty, pos, af, gd⟩ (.pointer (some ⟨b, o', none⟩)) := r_fa Try.underlying85 rfl rfl i_map_string_int rfl hx ho
theorem ld_map_string_int {a : Addr} {v : Value} (hx : evn n f x = .pointer (some a)) (hc : w.cell? a = some v) : RV PP n f w ⟨some d, .load 83 x, ty, pos, af, gd⟩ v := r_ld Try.underlying83 rfl hx hc
theorem bs_sl_uint8 {len : Nat} {ps : List (Nat × Operand)} {vs : List (Nat × Value)} {cs : Array Value} (hl : len * 1 ≤ 2 ^ 24) (hv : ps.map (fun p => (p.1, evn n f p.2)) = vs) (hf : Instr.fill (fun i => some (i * 1, 1)) (zr (.int .u8 0 : Value).cells.toList (len * 1)) vs = some cs) (h : ∀ b w1, New w b (.cells cs 5 (0, 0)) w1 → K (upd f d (.slice (some ⟨b, 0, none⟩) len len)) w1) : OK PP n ⟨some d, .buildSlice 86 len ps.toArray, ty, pos, af, gd⟩ f w K := ok_bs Try.underlying86 i_uint8 rfl hl hv hf h
theorem mu_map_string_int {b : Nat} {es : List (ByteArray × Int)} {a : ByteArray} {c : Int} {v : Operand} (hx : evn n f x = .map (some b)) (hy : evn n f y = strV a) (hv : evn n f v = intV c) (hm : Mp strV intV w (some b) es) (h : ∀ w1, Mp strV intV w1 (some b) (mput a c es) → Chg (fun x => x = b) w w1 → K f w1) : OK PP n ⟨none, .mapUpdate 83 x y v, ty, pos, af, gd⟩ f w K := ok_mu Try.underlying83 ke_string hx hy hv hm h
theorem lda_api_Merge {vs : List Value} (hx : evn n f x = .pointer (some ⟨b, o, none⟩)) (hl : vs.length = 2) (hc : Cells w b o vs) : RV PP n f w ⟨some d, .load 81 x, ty, pos, af, gd⟩ (.agg vs.toArray) := r_lda Try.underlying81 rfl i_api_Merge hx hl hc
theorem al_api_Merge {cs : Array Value} (hz : (.agg #[.string (⟨#[]⟩ : ByteArray), .string (⟨#[]⟩ : ByteArray)] : Value).cells = cs) (h : ∀ b w1, New w b (.cells cs 81 (0, 0)) w1 → K (upd f d (.pointer (some ⟨b, 0, none⟩))) w1) : OK PP n ⟨some d, .alloc 81, ty, pos, af, gd⟩ f w K := ok_al i_api_Merge hz h
theorem st_api_Merge {v : Value} {vs : List Value} (hx : evn n f x = .pointer (some ⟨b, o, none⟩)) (hy : evn n f y = v) (hv : v.cells = vs.toArray) (hl : vs.length = 2) (h1 : vs.all (·.oneCell') = true) (hw : Wr w b o 2) (h : ∀ w1, w1 = setCells w b o vs → K f w1) : OK PP n ⟨none, .store 81 x y, ty, pos, af, gd⟩ f w K := ok_st i_api_Merge hx hy hv hl h1 hw h
theorem lk_map_string_int {m : Option Nat} {es : List (ByteArray × Int)} {a : ByteArray} (hx : evn n f x = .map m) (hy : evn n f y = strV a) (hm : Mp strV intV w m es) : RV PP n f w ⟨some d, .lookup 83 x y false, ty, pos, af, gd⟩ (intV ((mget a es).getD 0)) := r_lk Try.underlying83 ke_string i_int hx hy hm
theorem fa_vocab_Vocab_1 (hx : evn n f x = .pointer (some ⟨b, o, none⟩)) (ho : o + 1 = o') : RV PP n f w ⟨some d, .fieldAddr 85 x 1, ty, pos, af, gd⟩ (.pointer (some ⟨b, o', none⟩)) := r_fa Try.underlying85 rfl rfl i_map_string_int rfl hx ho
theorem fa_vocab_Vocab_2 (hx : evn n f x = .pointer (some ⟨b, o, none⟩)) (ho : o + 2 = o') : RV PP n f w ⟨some d, .fieldAddr 85 x 2, ty, pos, af, gd⟩ (.pointer (some ⟨b, o', none⟩)) := r_fa Try.underlying85 rfl rfl i_int rfl hx ho
theorem ld_int {a : Addr} {v : Value} (hx : evn n f x = .pointer (some a)) (hc : w.cell? a = some v) : RV PP n f w ⟨some d, .load 3 x, ty, pos, af, gd⟩ v := r_ld Try.underlying3 rfl hx hc
theorem sl_sl_api_Merge {lo hi : Option Operand} {s : Sl} {l h : Nat} (hx : evn n f x = s.v) (hl : lo.map (evn n f) = if lo.isSome then some (.int .i64 (l : Nat)) else none) (hh : hi.map (evn n f) = if hi.isSome then some (.int .i64 (h : Nat)) else none) (hl0 : lo.isSome = false → l = 0) (hh0 : hi.isSome = false → h = s.n) (h1 : l ≤ h ∧ h ≤ s.c) : RV PP n f w ⟨some d, .slice 22 x lo hi none, ty, pos, af, gd⟩ (s.sub l h 2).v := r_sl hx Try.underlying22 i_api_Merge hl hh hl0 hh0 h1
theorem lko_map_string_int {m : Option Nat} {es : List (ByteArray × Int)} {a : ByteArray} (hx : evn n f x = .map m) (hy : evn n f y = strV a) (hm : Mp strV intV w m es) : RV PP n f w ⟨some d, .lookup 83 x y true, ty, pos, af, gd⟩ (.tuple #[intV ((mget a es).getD 0), .bool (mget a es).isSome]) := r_lko Try.underlying83 ke_string i_int hx hy hm
theorem ap_sl_string {wv : World} {s : Sl} {xs : List Value} {ab ao m c : Nat} {news : List Value} (hx : evn n f x = s.v) (hy : evn n f y = .slice (some ⟨ab, ao, none⟩) m c) (X : Ext wv w) (hown : Own wv 9 1 s xs) (hc : Cells w ab ao news) (hl : news.length = m * 1) (h1 : news.all (·.oneCell') = true) (hb : (s.n + m) * 16 ≤ 140737488355328 ∧ s.n + m ≤ maxLen) (h : ∀ s' w1, App wv 9 1 s xs m news s' w1 → Chg (fun b => s.blk = some b) w w1 → K (upd f d s'.v) w1) : OK PP n ⟨some d, .call { callee := .builtin .append, args := #[x, y], argTypes := #[37, 37] }, ty, pos, af, gd⟩ f w K := ok_app Try.underlying37 i_string rfl rfl hx hy X hown hc hl h1 hb h
theorem sl_sl_string {lo hi : Option Operand} {s : Sl} {l h : Nat} (hx : evn n f x = s.v) (hl : lo.map (evn n f) = if lo.isSome then some (.int .i64 (l : Nat)) else none) (hh : hi.map (evn n f) = if hi.isSome then some (.int .i64 (h : Nat)) else none) (hl0 : lo.isSome = false → l = 0) (hh0 : hi.isSome = false → h = s.n) (h1 : l ≤ h ∧ h ≤ s.c) : RV PP n f w ⟨some d, .slice 37 x lo hi none, ty, pos, af, gd⟩ (s.sub l h 1).v := r_sl hx Try.underlying37 i_string hl hh hl0 hh0 h1
theorem bd_api_Word {ps : List (Nat × Operand)} {vs : List (Nat × Value)} {cs : Array Value} (hv : ps.map (fun p => (p.1, evn n f p.2)) = vs) (hf : Instr.fill ((#[(0, 1), (1, 1)] : Array (Nat × Nat))[·]?) (.agg #[.string (⟨#[]⟩ : ByteArray), .int .i64 0] : Value).cells vs = some cs) : RV PP n f w ⟨some d, .build 67 ps.toArray, ty, pos, af, gd⟩ (.agg cs) := r_bd Try.underlying67 i_api_Word (fun _ => by kernel_rfl) hv hf
theorem bs_sl_api_Word {len : Nat} {ps : List (Nat × Operand)} {vs : List (Nat × Value)} {cs : Array Value} (hl : len * 2 ≤ 2 ^ 24) (hv : ps.map (fun p => (p.1, evn n f p.2)) = vs) (hf : Instr.fill (fun i => some (i * 2, 2)) (zr (.agg #[.string (⟨#[]⟩ : ByteArray), .int .i64 0] : Value).cells.toList (len * 2)) vs = some cs) (h : ∀ b w1, New w b (.cells cs 67 (0, 0)) w1 → K (upd f d (.slice (some ⟨b, 0, none⟩) len len)) w1) : OK PP n ⟨some d, .buildSlice 50 len ps.toArray, ty, pos, af, gd⟩ f w K := ok_bs Try.underlying50 i_api_Word rfl hl hv hf h
theorem fa_api_Params_0 (hx : evn n f x = .pointer (some ⟨b, o, none⟩)) (ho : o + 0 = o') : RV PP n f w ⟨some d, .fieldAddr 47 x 0, ty, pos, af, gd⟩ (.pointer (some ⟨b, o', none⟩)) := r_fa Try.underlying47 rfl rfl i_int rfl hx ho
theorem fa_api_Params_1 (hx : evn n f x = .pointer (some ⟨b, o, none⟩)) (ho : o + 1 = o') : RV PP n f w ⟨some d, .fieldAddr 47 x 1, ty, pos, af, gd⟩ (.pointer (some ⟨b, o', none⟩)) := r_fa Try.underlying47 rfl rfl i_int rfl hx ho
theorem fa_api_Params_2 (hx : evn n f x = .pointer (some ⟨b, o, none⟩)) (ho : o + 2 = o') : RV PP n f w ⟨some d, .fieldAddr 47 x 2, ty, pos, af, gd⟩ (.pointer (some ⟨b, o', none⟩)) := r_fa Try.underlying47 rfl rfl i_int rfl hx ho
theorem lda_api_Word {vs : List Value} (hx : evn n f x = .pointer (some ⟨b, o, none⟩)) (hl : vs.length = 2) (hc : Cells w b o vs) : RV PP n f w ⟨some d, .load 67 x, ty, pos, af, gd⟩ (.agg vs.toArray) := r_lda Try.underlying67 rfl i_api_Word hx hl hc
theorem al_api_Word {cs : Array Value} (hz : (.agg #[.string (⟨#[]⟩ : ByteArray), .int .i64 0] : Value).cells = cs) (h : ∀ b w1, New w b (.cells cs 67 (0, 0)) w1 → K (upd f d (.pointer (some ⟨b, 0, none⟩))) w1) : OK PP n ⟨some d, .alloc 67, ty, pos, af, gd⟩ f w K := ok_al i_api_Word hz h
theorem st_api_Word {v : Value} {vs : List Value} (hx : evn n f x = .pointer (some ⟨b, o, none⟩)) (hy : evn n f y = v) (hv : v.cells = vs.toArray) (hl : vs.length = 2) (h1 : vs.all (·.oneCell') = true) (hw : Wr w b o 2) (h : ∀ w1, w1 = setCells w b o vs → K f w1) : OK PP n ⟨none, .store 67 x y, ty, pos, af, gd⟩ f w K := ok_st i_api_Word hx hy hv hl h1 hw h
theorem bs_sl_int {len : Nat} {ps : List (Nat × Operand)} {vs : List (Nat × Value)} {cs : Array Value} (hl : len * 1 ≤ 2 ^ 24) (hv : ps.map (fun p => (p.1, evn n f p.2)) = vs) (hf : Instr.fill (fun i => some (i * 1, 1)) (zr (.int .i64 0 : Value).cells.toList (len * 1)) vs = some cs) (h : ∀ b w1, New w b (.cells cs 3 (0, 0)) w1 → K (upd f d (.slice (some ⟨b, 0, none⟩) len len)) w1) : OK PP n ⟨some d, .buildSlice 69 len ps.toArray, ty, pos, af, gd⟩ f w K := ok_bs Try.underlying69 i_int rfl hl hv hf h
theorem bs_sl_sl_string {len : Nat} {ps : List (Nat × Operand)} {vs : List (Nat × Value)} {cs : Array Value} (hl : len * 1 ≤ 2 ^ 24) (hv : ps.map (fun p => (p.1, evn n f p.2)) = vs) (hf : Instr.fill (fun i => some (i * 1, 1)) (zr (.slice none 0 0 : Value).cells.toList (len * 1)) vs = some cs) (h : ∀ b w1, New w b (.cells cs 37 (0, 0)) w1 → K (upd f d (.slice (some ⟨b, 0, none⟩) len len)) w1) : OK PP n ⟨some d, .buildSlice 64 len ps.toArray, ty, pos, af, gd⟩ f w K := ok_bs Try.underlying64 i_sl_string rfl hl hv hf h
theorem ap_sl_sl_string {wv : World} {s : Sl} {xs : List Value} {ab ao m c : Nat} {news : List Value} (hx : evn n f x = s.v) (hy : evn n f y = .slice (some ⟨ab, ao, none⟩) m c) (X : Ext wv w) (hown : Own wv 37 1 s xs) (hc : Cells w ab ao news) (hl : news.length = m * 1) (h1 : news.all (·.oneCell') = true) (hb : (s.n + m) * 24 ≤ 140737488355328 ∧ s.n + m ≤ maxLen) (h : ∀ s' w1, App wv 37 1 s xs m news s' w1 → Chg (fun b => s.blk = some b) w w1 → K (upd f d s'.v) w1) : OK PP n ⟨some d, .call { callee := .builtin .append, args := #[x, y], argTypes := #[64, 64] }, ty, pos, af, gd⟩ f w K := ok_app Try.underlying64 i_sl_string rfl rfl hx hy X hown hc hl h1 hb h
theorem fa_api_Word_1 (hx : evn n f x = .pointer (some ⟨b, o, none⟩)) (ho : o + 1 = o') : RV PP n f w ⟨some d, .fieldAddr 67 x 1, ty, pos, af, gd⟩ (.pointer (some ⟨b, o', none⟩)) := r_fa Try.underlying67 rfl rfl i_int rfl hx ho
theorem ap_sl_int {wv : World} {s : Sl} {xs : List Value} {ab ao m c : Nat} {news : List Value} (hx : evn n f x = s.v) (hy : evn n f y = .slice (some ⟨ab, ao, none⟩) m c) (X : Ext wv w) (hown : Own wv 3 1 s xs) (hc : Cells w ab ao news) (hl : news.length = m * 1) (h1 : news.all (·.oneCell') = true) (hb : (s.n + m) * 8 ≤ 140737488355328 ∧ s.n + m ≤ maxLen) (h : ∀ s' w1, App wv 3 1 s xs m news s' w1 → Chg (fun b => s.blk = some b) w w1 → K (upd f d s'.v) w1) : OK PP n ⟨some d, .call { callee := .builtin .append, args := #[x, y], argTypes := #[69, 69] }, ty, pos, af, gd⟩ f w K := ok_app Try.underlying69 i_int rfl rfl hx hy X hown hc hl h1 hb h
theorem ap_sl_api_Merge {wv : World} {s : Sl} {xs : List Value} {ab ao m c : Nat} {news : List Value} (hx : evn n f x = s.v) (hy : evn n f y = .slice (some ⟨ab, ao, none⟩) m c) (X : Ext wv w) (hown : Own wv 81 2 s xs) (hc : Cells w ab ao news) (hl : news.length = m * 2) (h1 : news.all (·.oneCell') = true) (hb : (s.n + m) * 32 ≤ 140737488355328 ∧ s.n + m ≤ maxLen) (h : ∀ s' w1, App wv 81 2 s xs m news s' w1 → Chg (fun b => s.blk = some b) w w1 → K (upd f d s'.v) w1) : OK PP n ⟨some d, .call { callee := .builtin .append, args := #[x, y], argTypes := #[22, 22] }, ty, pos, af, gd⟩ f w K := ok_app Try.underlying22 i_api_Merge rfl rfl hx hy X hown hc hl h1 hb h
theorem bd_apply_Coder {ps : List (Nat × Operand)} {vs : List (Nat × Value)} {cs : Array Value} (hv : ps.map (fun p => (p.1, evn n f p.2)) = vs) (hf : Instr.fill ((#[(0, 1), (1, 1)] : Array (Nat × Nat))[·]?) (.agg #[.pointer none, .map none] : Value).cells vs = some cs) : RV PP n f w ⟨some d, .build 107 ps.toArray, ty, pos, af, gd⟩ (.agg cs) := r_bd Try.underlying107 i_apply_Coder (fun _ => by kernel_rfl) hv hf
theorem bx_apply_Coder {v : Value} {cs : Array Value} (hx : evn n f x = v) (hv : v.cells = cs) (h : ∀ b w1, New w b (.cells cs 107 (0, 0)) w1 → K (upd f d (.pointer (some ⟨b, 0, none⟩))) w1) : OK PP n ⟨some d, .box 107 x, ty, pos, af, gd⟩ f w K := ok_bx hx hv h
theorem fa_apply_Coder_0 (hx : evn n f x = .pointer (some ⟨b, o, none⟩)) (ho : o + 0 = o') : RV PP n f w ⟨some d, .fieldAddr 107 x 0, ty, pos, af, gd⟩ (.pointer (some ⟨b, o', none⟩)) := r_fa Try.underlying107 rfl rfl i_p_sym_Table rfl hx ho
theorem ld_p_sym_Table {a : Addr} {v : Value} (hx : evn n f x = .pointer (some a)) (hc : w.cell? a = some v) : RV PP n f w ⟨some d, .load 103 x, ty, pos, af, gd⟩ v := r_ld Try.underlying103 rfl hx hc
theorem fa_apply_Coder_1 (hx : evn n f x = .pointer (some ⟨b, o, none⟩)) (ho : o + 1 = o') : RV PP n f w ⟨some d, .fieldAddr 107 x 1, ty, pos, af, gd⟩ (.pointer (some ⟨b, o', none⟩)) := r_fa Try.underlying107 rfl rfl i_map_api_Pair_int rfl hx ho
theorem ld_map_api_Pair_int {a : Addr} {v : Value} (hx : evn n f x = .pointer (some a)) (hc : w.cell? a = some v) : RV PP n f w ⟨some d, .load 105 x, ty, pos, af, gd⟩ v := r_ld Try.underlying105 rfl hx hc
theorem bd_api_Pair {ps : List (Nat × Operand)} {vs : List (Nat × Value)} {cs : Array Value} (hv : ps.map (fun p => (p.1, evn n f p.2)) = vs) (hf : Instr.fill ((#[(0, 1), (1, 1)] : Array (Nat × Nat))[·]?) (.agg #[.int .i64 0, .int .i64 0] : Value).cells vs = some cs) : RV PP n f w ⟨some d, .build 111 ps.toArray, ty, pos, af, gd⟩ (.agg cs) := r_bd Try.underlying111 i_api_Pair (fun _ => by kernel_rfl) hv hf
theorem mu_map_api_Pair_int {b : Nat} {es : List ((Int × Int) × Int)} {a : (Int × Int)} {c : Int} {v : Operand} (hx : evn n f x = .map (some b)) (hy : evn n f y = pairV a) (hv : evn n f v = intV c) (hm : Mp pairV intV w (some b) es) (h : ∀ w1, Mp pairV intV w1 (some b) (mput a c es) → Chg (fun x => x = b) w w1 → K f w1) : OK PP n ⟨none, .mapUpdate 105 x y v, ty, pos, af, gd⟩ f w K := ok_mu Try.underlying105 ke_api_Pair hx hy hv hm h
theorem ia_sl_int {s : Sl} {k : IntKind} (hx : evn n f x = s.v) (hy : evn n f y = .int k (j : Nat)) (hj : j < s.n) (hb : s.b = some ⟨b, o, none⟩) (ho : o + j * 1 = o') : RV PP n f w ⟨some d, .indexAddr 69 x y, ty, pos, af, gd⟩ (.pointer (some ⟨b, o', none⟩)) := r_ia Try.underlying69 i_int hx hy hj hb ho
theorem al_strings_Builder {cs : Array Value} (hz : (.agg #[.pointer none, .slice none 0 0] : Value).cells = cs) (h : ∀ b w1, New w b (.cells cs 115 (0, 0)) w1 → K (upd f d (.pointer (some ⟨b, 0, none⟩))) w1) : OK PP n ⟨some d, .alloc 115, ty, pos, af, gd⟩ f w K := ok_al i_strings_Builder hz h
theorem al_api_Pair {cs : Array Value} (hz : (.agg #[.int .i64 0, .int .i64 0] : Value).cells = cs) (h : ∀ b w1, New w b (.cells cs 111 (0, 0)) w1 → K (upd f d (.pointer (some ⟨b, 0, none⟩))) w1) : OK PP n ⟨some d, .alloc 111, ty, pos, af, gd⟩ f w K := ok_al i_api_Pair hz h
theorem st_api_Pair {v : Value} {vs : List Value} (hx : evn n f x = .pointer (some ⟨b, o, none⟩)) (hy : evn n f y = v) (hv : v.cells = vs.toArray) (hl : vs.length = 2) (h1 : vs.all (·.oneCell') = true) (hw : Wr w b o 2) (h : ∀ w1, w1 = setCells w b o vs → K f w1) : OK PP n ⟨none, .store 111 x y, ty, pos, af, gd⟩ f w K := ok_st i_api_Pair hx hy hv hl h1 hw h
theorem lda_api_Pair {vs : List Value} (hx : evn n f x = .pointer (some ⟨b, o, none⟩)) (hl : vs.length = 2) (hc : Cells w b o vs) : RV PP n f w ⟨some d, .load 111 x, ty, pos, af, gd⟩ (.agg vs.toArray) := r_lda Try.underlying111 rfl i_api_Pair hx hl hc
theorem bd_freq_Counter {ps : List (Nat × Operand)} {vs : List (Nat × Value)} {cs : Array Value} (hv : ps.map (fun p => (p.1, evn n f p.2)) = vs) (hf : Instr.fill ((#[(0, 1)] : Array (Nat × Nat))[·]?) (.agg #[.map none] : Value).cells vs = some cs) : RV PP n f w ⟨some d, .build 133 ps.toArray, ty, pos, af, gd⟩ (.agg cs) := r_bd Try.underlying133 i_freq_Counter (fun _ => by kernel_rfl) hv hf
theorem bx_freq_Counter {v : Value} {cs : Array Value} (hx : evn n f x = v) (hv : v.cells = cs) (h : ∀ b w1, New w b (.cells cs 133 (0, 0)) w1 → K (upd f d (.pointer (some ⟨b, 0, none⟩))) w1) : OK PP n ⟨some d, .box 133 x, ty, pos, af, gd⟩ f w K := ok_bx hx hv h
theorem fa_freq_Counter_0 (hx : evn n f x = .pointer (some ⟨b, o, none⟩)) (ho : o + 0 = o') : RV PP n f w ⟨some d, .fieldAddr 133 x 0, ty, pos, af, gd⟩ (.pointer (some ⟨b, o', none⟩)) := r_fa Try.underlying133 rfl rfl i_map_string_int rfl hx ho
theorem ap_sl_api_Word {wv : World} {s : Sl} {xs : List Value} {ab ao m c : Nat} {news : List Value} (hx : evn n f x = s.v) (hy : evn n f y = .slice (some ⟨ab, ao, none⟩) m c) (X : Ext wv w) (hown : Own wv 67 2 s xs) (hc : Cells w ab ao news) (hl : news.length = m * 2) (h1 : news.all (·.oneCell') = true) (hb : (s.n + m) * 24 ≤ 140737488355328 ∧ s.n + m ≤ maxLen) (h : ∀ s' w1, App wv 67 2 s xs m news s' w1 → Chg (fun b => s.blk = some b) w w1 → K (upd f d s'.v) w1) : OK PP n ⟨some d, .call { callee := .builtin .append, args := #[x, y], argTypes := #[50, 50] }, ty, pos, af, gd⟩ f w K := ok_app Try.underlying50 i_api_Word rfl rfl hx hy X hown hc hl h1 hb h
theorem bx_api_Word {v : Value} {cs : Array Value} (hx : evn n f x = v) (hv : v.cells = cs) (h : ∀ b w1, New w b (.cells cs 67 (0, 0)) w1 → K (upd f d (.pointer (some ⟨b, 0, none⟩))) w1) : OK PP n ⟨some d, .box 67 x, ty, pos, af, gd⟩ f w K := ok_bx hx hv h
theorem bx_api_Merge {v : Value} {cs : Array Value} (hx : evn n f x = v) (hv : v.cells = cs) (h : ∀ b w1, New w b (.cells cs 81 (0, 0)) w1 → K (upd f d (.pointer (some ⟨b, 0, none⟩))) w1) : OK PP n ⟨some d, .box 81 x, ty, pos, af, gd⟩ f w K := ok_bx hx hv h
theorem bd_sym_Table {ps : List (Nat × Operand)} {vs : List (Nat × Value)} {cs : Array Value} (hv : ps.map (fun p => (p.1, evn n f p.2)) = vs) (hf : Instr.fill ((#[(0, 1), (1, 1)] : Array (Nat × Nat))[·]?) (.agg #[.slice none 0 0, .map none] : Value).cells vs = some cs) : RV PP n f w ⟨some d, .build 140 ps.toArray, ty, pos, af, gd⟩ (.agg cs) := r_bd Try.underlying140 i_sym_Table (fun _ => by kernel_rfl) hv hf
theorem bx_sym_Table {v : Value} {cs : Array Value} (hx : evn n f x = v) (hv : v.cells = cs) (h : ∀ b w1, New w b (.cells cs 140 (0, 0)) w1 → K (upd f d (.pointer (some ⟨b, 0, none⟩))) w1) : OK PP n ⟨some d, .box 140 x, ty, pos, af, gd⟩ f w K := ok_bx hx hv h
theorem fa_sym_Table_1 (hx : evn n f x = .pointer (some ⟨b, o, none⟩)) (ho : o + 1 = o') : RV PP n f w ⟨some d, .fieldAddr 140 x 1, ty, pos, af, gd⟩ (.pointer (some ⟨b, o', none⟩)) := r_fa Try.underlying140 rfl rfl i_map_string_int rfl hx ho
theorem st_map_string_int {v : Value} {vs : List Value} (hx : evn n f x = .pointer (some ⟨b, o, none⟩)) (hy : evn n f y = v) (hv : v.cells = vs.toArray) (hl : vs.length = 1) (h1 : vs.all (·.oneCell') = true) (hw : Wr w b o 1) (h : ∀ w1, w1 = setCells w b o vs → K f w1) : OK PP n ⟨none, .store 83 x y, ty, pos, af, gd⟩ f w K := ok_st i_map_string_int hx hy hv hl h1 hw h
theorem fa_sym_Table_0 (hx : evn n f x = .pointer (some ⟨b, o, none⟩)) (ho : o + 0 = o') : RV PP n f w ⟨some d, .fieldAddr 140 x 0, ty, pos, af, gd⟩ (.pointer (some ⟨b, o', none⟩)) := r_fa Try.underlying140 rfl rfl i_sl_sym_joined rfl hx ho
theorem ld_sl_sym_joined {a : Addr} {v : Value} (hx : evn n f x = .pointer (some a)) (hc : w.cell? a = some v) : RV PP n f w ⟨some d, .load 138 x, ty, pos, af, gd⟩ v := r_ld Try.underlying138 rfl hx hc
theorem bd_sym_joined {ps : List (Nat × Operand)} {vs : List (Nat × Value)} {cs : Array Value} (hv : ps.map (fun p => (p.1, evn n f p.2)) = vs) (hf : Instr.fill ((#[(0, 2), (2, 1)] : Array (Nat × Nat))[·]?) (.agg #[.int .i64 0, .int .i64 0, .string (⟨#[]⟩ : ByteArray)] : Value).cells vs = some cs) : RV PP n f w ⟨some d, .build 142 ps.toArray, ty, pos, af, gd⟩ (.agg cs) := r_bd Try.underlying142 i_sym_joined (fun _ => by kernel_rfl) hv hf
theorem bs_sl_sym_joined {len : Nat} {ps : List (Nat × Operand)} {vs : List (Nat × Value)} {cs : Array Value} (hl : len * 3 ≤ 2 ^ 24) (hv : ps.map (fun p => (p.1, evn n f p.2)) = vs) (hf : Instr.fill (fun i => some (i * 3, 3)) (zr (.agg #[.int .i64 0, .int .i64 0, .string (⟨#[]⟩ : ByteArray)] : Value).cells.toList (len * 3)) vs = some cs) (h : ∀ b w1, New w b (.cells cs 142 (0, 0)) w1 → K (upd f d (.slice (some ⟨b, 0, none⟩) len len)) w1) : OK PP n ⟨some d, .buildSlice 138 len ps.toArray, ty, pos, af, gd⟩ f w K := ok_bs Try.underlying138 i_sym_joined rfl hl hv hf h
theorem ap_sl_sym_joined {wv : World} {s : Sl} {xs : List Value} {ab ao m c : Nat} {news : List Value} (hx : evn n f x = s.v) (hy : evn n f y = .slice (some ⟨ab, ao, none⟩) m c) (X : Ext wv w) (hown : Own wv 142 3 s xs) (hc : Cells w ab ao news) (hl : news.length = m * 3) (h1 : news.all (·.oneCell') = true) (hb : (s.n + m) * 32 ≤ 140737488355328 ∧ s.n + m ≤ maxLen) (h : ∀ s' w1, App wv 142 3 s xs m news s' w1 → Chg (fun b => s.blk = some b) w w1 → K (upd f d s'.v) w1) : OK PP n ⟨some d, .call { callee := .builtin .append, args := #[x, y], argTypes := #[138, 138] }, ty, pos, af, gd⟩ f w K := ok_app Try.underlying138 i_sym_joined rfl rfl hx hy X hown hc hl h1 hb h
theorem st_sl_sym_joined {v : Value} {vs : List Value} (hx : evn n f x = .pointer (some ⟨b, o, none⟩)) (hy : evn n f y = v) (hv : v.cells = vs.toArray) (hl : vs.length = 1) (h1 : vs.all (·.oneCell') = true) (hw : Wr w b o 1) (h : ∀ w1, w1 = setCells w b o vs → K f w1) : OK PP n ⟨none, .store 138 x y, ty, pos, af, gd⟩ f w K := ok_st i_sl_sym_joined hx hy hv hl h1 hw h
theorem ia_sl_sym_joined {s : Sl} {k : IntKind} (hx : evn n f x = s.v) (hy : evn n f y = .int k (j : Nat)) (hj : j < s.n) (hb : s.b = some ⟨b, o, none⟩) (ho : o + j * 3 = o') : RV PP n f w ⟨some d, .indexAddr 138 x y, ty, pos, af, gd⟩ (.pointer (some ⟨b, o', none⟩)) := r_ia Try.underlying138 i_sym_joined hx hy hj hb ho
theorem fa_sym_joined_1 (hx : evn n f x = .pointer (some ⟨b, o, none⟩)) (ho : o + 2 = o') : RV PP n f w ⟨some d, .fieldAddr 142 x 1, ty, pos, af, gd⟩ (.pointer (some ⟨b, o', none⟩)) := r_fa Try.underlying142 rfl rfl i_string rfl hx ho
theorem bd_seq_Seq {ps : List (Nat × Operand)} {vs : List (Nat × Value)} {cs : Array Value} (hv : ps.map (fun p => (p.1, evn n f p.2)) = vs) (hf : Instr.fill ((#[(0, 1), (1, 1), (2, 1)] : Array (Nat × Nat))[·]?) (.agg #[.slice none 0 0, .int .i64 0, .int .i64 0] : Value).cells vs = some cs) : RV PP n f w ⟨some d, .build 147 ps.toArray, ty, pos, af, gd⟩ (.agg cs) := r_bd Try.underlying147 i_seq_Seq (fun _ => by kernel_rfl) hv hf
theorem bx_seq_Seq {v : Value} {cs : Array Value} (hx : evn n f x = v) (hv : v.cells = cs) (h : ∀ b w1, New w b (.cells cs 147 (0, 0)) w1 → K (upd f d (.pointer (some ⟨b, 0, none⟩))) w1) : OK PP n ⟨some d, .box 147 x, ty, pos, af, gd⟩ f w K := ok_bx hx hv h
theorem ia_sl_uint8 {s : Sl} {k : IntKind} (hx : evn n f x = s.v) (hy : evn n f y = .int k (j : Nat)) (hj : j < s.n) (hb : s.b = some ⟨b, o, none⟩) (ho : o + j * 1 = o') : RV PP n f w ⟨some d, .indexAddr 86 x y, ty, pos, af, gd⟩ (.pointer (some ⟨b, o', none⟩)) := r_ia Try.underlying86 i_uint8 hx hy hj hb ho
theorem ld_uint8 {a : Addr} {v : Value} (hx : evn n f x = .pointer (some a)) (hc : w.cell? a = some v) : RV PP n f w ⟨some d, .load 5 x, ty, pos, af, gd⟩ v := r_ld Try.underlying5 rfl hx hc
theorem fa_seq_Seq_0 (hx : evn n f x = .pointer (some ⟨b, o, none⟩)) (ho : o + 0 = o') : RV PP n f w ⟨some d, .fieldAddr 147 x 0, ty, pos, af, gd⟩ (.pointer (some ⟨b, o', none⟩)) := r_fa Try.underlying147 rfl rfl i_sl_seq_cell rfl hx ho
theorem ld_sl_seq_cell {a : Addr} {v : Value} (hx : evn n f x = .pointer (some a)) (hc : w.cell? a = some v) : RV PP n f w ⟨some d, .load 145 x, ty, pos, af, gd⟩ v := r_ld Try.underlying145 rfl hx hc
theorem bd_seq_cell {ps : List (Nat × Operand)} {vs : List (Nat × Value)} {cs : Array Value} (hv : ps.map (fun p => (p.1, evn n f p.2)) = vs) (hf : Instr.fill ((#[(0, 1), (1, 1), (2, 1)] : Array (Nat × Nat))[·]?) (.agg #[.int .i64 0, .int .i64 0, .int .i64 0] : Value).cells vs = some cs) : RV PP n f w ⟨some d, .build 149 ps.toArray, ty, pos, af, gd⟩ (.agg cs) := r_bd Try.underlying149 i_seq_cell (fun _ => by kernel_rfl) hv hf
theorem bs_sl_seq_cell {len : Nat} {ps : List (Nat × Operand)} {vs : List (Nat × Value)} {cs : Array Value} (hl : len * 3 ≤ 2 ^ 24) (hv : ps.map (fun p => (p.1, evn n f p.2)) = vs) (hf : Instr.fill (fun i => some (i * 3, 3)) (zr (.agg #[.int .i64 0, .int .i64 0, .int .i64 0] : Value).cells.toList (len * 3)) vs = some cs) (h : ∀ b w1, New w b (.cells cs 149 (0, 0)) w1 → K (upd f d (.slice (some ⟨b, 0, none⟩) len len)) w1) : OK PP n ⟨some d, .buildSlice 145 len ps.toArray, ty, pos, af, gd⟩ f w K := ok_bs Try.underlying145 i_seq_cell rfl hl hv hf h
theorem ap_sl_seq_cell {wv : World} {s : Sl} {xs : List Value} {ab ao m c : Nat} {news : List Value} (hx : evn n f x = s.v) (hy : evn n f y = .slice (some ⟨ab, ao, none⟩) m c) (X : Ext wv w) (hown : Own wv 149 3 s xs) (hc : Cells w ab ao news) (hl : news.length = m * 3) (h1 : news.all (·.oneCell') = true) (hb : (s.n + m) * 24 ≤ 140737488355328 ∧ s.n + m ≤ maxLen) (h : ∀ s' w1, App wv 149 3 s xs m news s' w1 → Chg (fun b => s.blk = some b) w w1 → K (upd f d s'.v) w1) : OK PP n ⟨some d, .call { callee := .builtin .append, args := #[x, y], argTypes := #[145, 145] }, ty, pos, af, gd⟩ f w K := ok_app Try.underlying145 i_seq_cell rfl rfl hx hy X hown hc hl h1 hb h
theorem st_sl_seq_cell {v : Value} {vs : List Value} (hx : evn n f x = .pointer (some ⟨b, o, none⟩)) (hy : evn n f y = v) (hv : v.cells = vs.toArray) (hl : vs.length = 1) (h1 : vs.all (·.oneCell') = true) (hw : Wr w b o 1) (h : ∀ w1, w1 = setCells w b o vs → K f w1) : OK PP n ⟨none, .store 145 x y, ty, pos, af, gd⟩ f w K := ok_st i_sl_seq_cell hx hy hv hl h1 hw h
theorem fa_seq_Seq_1 (hx : evn n f x = .pointer (some ⟨b, o, none⟩)) (ho : o + 1 = o') : RV PP n f w ⟨some d, .fieldAddr 147 x 1, ty, pos, af, gd⟩ (.pointer (some ⟨b, o', none⟩)) := r_fa Try.underlying147 rfl rfl i_int rfl hx ho
theorem ia_sl_seq_cell {s : Sl} {k : IntKind} (hx : evn n f x = s.v) (hy : evn n f y = .int k (j : Nat)) (hj : j < s.n) (hb : s.b = some ⟨b, o, none⟩) (ho : o + j * 3 = o') : RV PP n f w ⟨some d, .indexAddr 145 x y, ty, pos, af, gd⟩ (.pointer (some ⟨b, o', none⟩)) := r_ia Try.underlying145 i_seq_cell hx hy hj hb ho
theorem fa_seq_cell_2 (hx : evn n f x = .pointer (some ⟨b, o, none⟩)) (ho : o + 2 = o') : RV PP n f w ⟨some d, .fieldAddr 149 x 2, ty, pos, af, gd⟩ (.pointer (some ⟨b, o', none⟩)) := r_fa Try.underlying149 rfl rfl i_int rfl hx ho
theorem ia_sl_seq_Change {s : Sl} {k : IntKind} (hx : evn n f x = s.v) (hy : evn n f y = .int k (j : Nat)) (hj : j < s.n) (hb : s.b = some ⟨b, o, none⟩) (ho : o + j * 3 = o') : RV PP n f w ⟨some d, .indexAddr 127 x y, ty, pos, af, gd⟩ (.pointer (some ⟨b, o', none⟩)) := r_ia Try.underlying127 i_seq_Change hx hy hj hb ho
theorem lda_seq_Change {vs : List Value} (hx : evn n f x = .pointer (some ⟨b, o, none⟩)) (hl : vs.length = 3) (hc : Cells w b o vs) : RV PP n f w ⟨some d, .load 152 x, ty, pos, af, gd⟩ (.agg vs.toArray) := r_lda Try.underlying152 rfl i_seq_Change hx hl hc
theorem al_seq_Change {cs : Array Value} (hz : (.agg #[.int .i64 0, .int .i64 0, .int .i64 0] : Value).cells = cs) (h : ∀ b w1, New w b (.cells cs 152 (0, 0)) w1 → K (upd f d (.pointer (some ⟨b, 0, none⟩))) w1) : OK PP n ⟨some d, .alloc 152, ty, pos, af, gd⟩ f w K := ok_al i_seq_Change hz h
theorem st_seq_Change {v : Value} {vs : List Value} (hx : evn n f x = .pointer (some ⟨b, o, none⟩)) (hy : evn n f y = v) (hv : v.cells = vs.toArray) (hl : vs.length = 3) (h1 : vs.all (·.oneCell') = true) (hw : Wr w b o 3) (h : ∀ w1, w1 = setCells w b o vs → K f w1) : OK PP n ⟨none, .store 152 x y, ty, pos, af, gd⟩ f w K := ok_st i_seq_Change hx hy hv hl h1 hw h
theorem fa_seq_Change_0 (hx : evn n f x = .pointer (some ⟨b, o, none⟩)) (ho : o + 0 = o') : RV PP n f w ⟨some d, .fieldAddr 152 x 0, ty, pos, af, gd⟩ (.pointer (some ⟨b, o', none⟩)) := r_fa Try.underlying152 rfl rfl i_api_Pair rfl hx ho
theorem lko_map_api_Pair_int {m : Option Nat} {es : List ((Int × Int) × Int)} {a : (Int × Int)} (hx : evn n f x = .map m) (hy : evn n f y = pairV a) (hm : Mp pairV intV w m es) : RV PP n f w ⟨some d, .lookup 105 x y true, ty, pos, af, gd⟩ (.tuple #[intV ((mget a es).getD 0), .bool (mget a es).isSome]) := r_lko Try.underlying105 ke_api_Pair i_int hx hy hm
theorem fa_seq_cell_0 (hx : evn n f x = .pointer (some ⟨b, o, none⟩)) (ho : o + 0 = o') : RV PP n f w ⟨some d, .fieldAddr 149 x 0, ty, pos, af, gd⟩ (.pointer (some ⟨b, o', none⟩)) := r_fa Try.underlying149 rfl rfl i_int rfl hx ho
theorem bx_api_Pair {v : Value} {cs : Array Value} (hx : evn n f x = v) (hv : v.cells = cs) (h : ∀ b w1, New w b (.cells cs 111 (0, 0)) w1 → K (upd f d (.pointer (some ⟨b, 0, none⟩))) w1) : OK PP n ⟨some d, .box 111 x, ty, pos, af, gd⟩ f w K := ok_bx hx hv h
theorem fa_seq_cell_1 (hx : evn n f x = .pointer (some ⟨b, o, none⟩)) (ho : o + 1 = o') : RV PP n f w ⟨some d, .fieldAddr 149 x 1, ty, pos, af, gd⟩ (.pointer (some ⟨b, o', none⟩)) := r_fa Try.underlying149 rfl rfl i_int rfl hx ho
theorem fa_seq_Seq_2 (hx : evn n f x = .pointer (some ⟨b, o, none⟩)) (ho : o + 2 = o') : RV PP n f w ⟨some d, .fieldAddr 147 x 2, ty, pos, af, gd⟩ (.pointer (some ⟨b, o', none⟩)) := r_fa Try.underlying147 rfl rfl i_int rfl hx ho
theorem bx_seq_Change {v : Value} {cs : Array Value} (hx : evn n f x = v) (hv : v.cells = cs) (h : ∀ b w1, New w b (.cells cs 152 (0, 0)) w1 → K (upd f d (.pointer (some ⟨b, 0, none⟩))) w1) : OK PP n ⟨some d, .box 152 x, ty, pos, af, gd⟩ f w K := ok_bx hx hv h
theorem fa_api_Pair_0 (hx : evn n f x = .pointer (some ⟨b, o, none⟩)) (ho : o + 0 = o') : RV PP n f w ⟨some d, .fieldAddr 111 x 0, ty, pos, af, gd⟩ (.pointer (some ⟨b, o', none⟩)) := r_fa Try.underlying111 rfl rfl i_int rfl hx ho
theorem fa_api_Pair_1 (hx : evn n f x = .pointer (some ⟨b, o, none⟩)) (ho : o + 1 = o') : RV PP n f w ⟨some d, .fieldAddr 111 x 1, ty, pos, af, gd⟩ (.pointer (some ⟨b, o', none⟩)) := r_fa Try.underlying111 rfl rfl i_int rfl hx ho
end
end Go.Proofs.Ytcgeeddhneopfaa.G
