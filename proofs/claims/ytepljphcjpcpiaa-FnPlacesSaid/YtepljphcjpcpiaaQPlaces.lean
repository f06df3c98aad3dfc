/- The equations of the functions that a law reaches, printed out of the translation by a program of this session; Lean checks each. -/
import Derived.Test.YtepljphcjpcpiaaEvDat
import Derived.KernelRfl
import Derived.Test.YtepljphcjpcpiaaProg
open Go Go.Ev Go.Proofs
set_option maxRecDepth 100000
set_option linter.unusedVariables false
namespace Go.Ev.Q
noncomputable def tyL : List (Nat × TI) := [(29, ⟨13, 184, true, (.st [(0, 3), (1, 3), (2, 3), (3, 3), (4, 22), (5, 25), (8, 25), (11, 26), (12, 27)]), [.d (.int .i64 0), .d (.int .i64 0), .d (.int .i64 0), .d (.int .i64 0), .d (.sl true 1 0 []), .d (.int .i64 0), .d (.int .i64 0), .d (.sl true 3 0 []), .d (.int .i64 0), .d (.int .i64 0), .d (.sl true 3 0 []), .d (.sl true 13 0 []), .d (.sl true 15 0 [])], [.int .i64, .int .i64, .int .i64, .int .i64, .sl 1, .int .i64, .int .i64, .sl 3, .int .i64, .int .i64, .sl 3, .sl 13, .sl 15]⟩),
  (3, ⟨1, 8, false, (.int .i64), [.d (.int .i64 0)], [.int .i64]⟩),
  (22, ⟨1, 24, false, (.sl 5), [.d (.sl true 1 0 [])], [.sl 1]⟩),
  (5, ⟨1, 1, false, (.int .u8), [.d (.int .u8 0)], [.int .u8]⟩),
  (25, ⟨3, 40, true, (.st [(0, 3), (1, 3), (2, 23)]), [.d (.int .i64 0), .d (.int .i64 0), .d (.sl true 3 0 [])], [.int .i64, .int .i64, .sl 3]⟩),
  (23, ⟨1, 24, false, (.sl 25), [.d (.sl true 3 0 [])], [.sl 3]⟩),
  (26, ⟨1, 24, false, (.sl 29), [.d (.sl true 13 0 [])], [.sl 13]⟩),
  (27, ⟨1, 24, false, (.sl 165), [.d (.sl true 15 0 [])], [.sl 15]⟩),
  (165, ⟨15, 216, true, (.st [(0, 3), (1, 42), (2, 29)]), [.d (.int .i64 0), .d (.sl true 1 0 []), .d (.int .i64 0), .d (.int .i64 0), .d (.int .i64 0), .d (.int .i64 0), .d (.sl true 1 0 []), .d (.int .i64 0), .d (.int .i64 0), .d (.sl true 3 0 []), .d (.int .i64 0), .d (.int .i64 0), .d (.sl true 3 0 []), .d (.sl true 13 0 []), .d (.sl true 15 0 [])], [.int .i64, .sl 1, .int .i64, .int .i64, .int .i64, .int .i64, .sl 1, .int .i64, .int .i64, .sl 3, .int .i64, .int .i64, .sl 3, .sl 13, .sl 15]⟩),
  (42, ⟨1, 24, false, (.sl 3), [.d (.sl true 1 0 [])], [.sl 1]⟩),
  (4, ⟨1, 1, false, .bool, [.d (.bool false)], [.bool]⟩),
  (38, ⟨13, 184, true, (.st [(0, 3), (1, 3), (2, 3), (3, 3), (4, 22), (5, 34), (8, 34), (11, 35), (12, 36)]), [.d (.int .i64 0), .d (.int .i64 0), .d (.int .i64 0), .d (.int .i64 0), .d (.sl true 1 0 []), .d (.int .i64 0), .d (.int .i64 0), .d (.sl true 3 0 []), .d (.int .i64 0), .d (.int .i64 0), .d (.sl true 3 0 []), .d (.sl true 13 0 []), .d (.sl true 15 0 [])], [.int .i64, .int .i64, .int .i64, .int .i64, .sl 1, .int .i64, .int .i64, .sl 3, .int .i64, .int .i64, .sl 3, .sl 13, .sl 15]⟩),
  (34, ⟨3, 40, true, (.st [(0, 3), (1, 3), (2, 32)]), [.d (.int .i64 0), .d (.int .i64 0), .d (.sl true 3 0 [])], [.int .i64, .int .i64, .sl 3]⟩),
  (32, ⟨1, 24, false, (.sl 34), [.d (.sl true 3 0 [])], [.sl 3]⟩),
  (35, ⟨1, 24, false, (.sl 38), [.d (.sl true 13 0 [])], [.sl 13]⟩),
  (36, ⟨1, 24, false, (.sl 169), [.d (.sl true 15 0 [])], [.sl 15]⟩),
  (169, ⟨15, 216, true, (.st [(0, 3), (1, 42), (2, 38)]), [.d (.int .i64 0), .d (.sl true 1 0 []), .d (.int .i64 0), .d (.int .i64 0), .d (.int .i64 0), .d (.int .i64 0), .d (.sl true 1 0 []), .d (.int .i64 0), .d (.int .i64 0), .d (.sl true 3 0 []), .d (.int .i64 0), .d (.int .i64 0), .d (.sl true 3 0 []), .d (.sl true 13 0 []), .d (.sl true 15 0 [])], [.int .i64, .sl 1, .int .i64, .int .i64, .int .i64, .int .i64, .sl 1, .int .i64, .int .i64, .sl 3, .int .i64, .int .i64, .sl 3, .sl 13, .sl 15]⟩),
  (45, ⟨5, 72, true, (.st [(0, 42), (1, 3), (2, 3), (3, 3), (4, 43)]), [.d (.sl true 1 0 []), .d (.int .i64 0), .d (.int .i64 0), .d (.int .i64 0), .d (.sl true 3 0 [])], [.sl 1, .int .i64, .int .i64, .int .i64, .sl 3]⟩),
  (43, ⟨1, 24, false, (.sl 175), [.d (.sl true 3 0 [])], [.sl 3]⟩),
  (175, ⟨3, 24, true, (.st [(0, 3), (1, 3), (2, 3)]), [.d (.int .i64 0), .d (.int .i64 0), .d (.int .i64 0)], [.int .i64, .int .i64, .int .i64]⟩),
  (49, ⟨5, 72, true, (.st [(0, 42), (1, 3), (2, 3), (3, 3), (4, 47)]), [.d (.sl true 1 0 []), .d (.int .i64 0), .d (.int .i64 0), .d (.int .i64 0), .d (.sl true 3 0 [])], [.sl 1, .int .i64, .int .i64, .int .i64, .sl 3]⟩),
  (47, ⟨1, 24, false, (.sl 173), [.d (.sl true 3 0 [])], [.sl 3]⟩),
  (173, ⟨3, 24, true, (.st [(0, 3), (1, 3), (2, 3)]), [.d (.int .i64 0), .d (.int .i64 0), .d (.int .i64 0)], [.int .i64, .int .i64, .int .i64]⟩),
  (78, ⟨1, 24, false, (.sl 139), [.d (.sl true 4 0 [])], [.sl 4]⟩),
  (139, ⟨4, 48, true, (.st [(0, 3), (1, 25)]), [.d (.int .i64 0), .d (.int .i64 0), .d (.int .i64 0), .d (.sl true 3 0 [])], [.int .i64, .int .i64, .int .i64, .sl 3]⟩),
  (81, ⟨1, 24, false, (.sl 99), [.d (.sl true 4 0 [])], [.sl 4]⟩),
  (99, ⟨4, 48, true, (.st [(0, 3), (1, 34)]), [.d (.int .i64 0), .d (.int .i64 0), .d (.int .i64 0), .d (.sl true 3 0 [])], [.int .i64, .int .i64, .int .i64, .sl 3]⟩),
  (106, ⟨1, 8, false, .other, [.undef], [.undef]⟩),
  (115, ⟨1, 8, false, .other, [.undef], [.undef]⟩),
  (126, ⟨1, 8, false, .other, [.undef], [.undef]⟩),
  (182, ⟨3, 40, true, (.st [(0, 22), (1, 3), (2, 3)]), [.d (.sl true 1 0 []), .d (.int .i64 0), .d (.int .i64 0)], [.sl 1, .int .i64, .int .i64]⟩),
  (135, ⟨1, 8, false, .other, [.undef], [.undef]⟩),
  (143, ⟨1, 8, false, .other, [.undef], [.undef]⟩),
  (150, ⟨2, 32, true, (.st [(0, 81), (1, 148)]), [.d (.sl true 4 0 []), .undef], [.sl 4, .undef]⟩),
  (148, ⟨1, 8, false, .other, [.undef], [.undef]⟩),
  (156, ⟨1, 8, false, .other, [.undef], [.undef]⟩),
  (162, ⟨1, 8, false, .other, [.undef], [.undef]⟩),
  (167, ⟨1, 8, false, .other, [.undef], [.undef]⟩),
  (91, ⟨1, 8, false, .other, [.undef], [.undef]⟩),
  (193, ⟨1, 8, false, (.int .u64), [.d (.int .u64 0)], [.int .u64]⟩),
  (198, ⟨1, 8, false, (.int .i64), [.d (.int .i64 0)], [.int .i64]⟩),
  (205, ⟨1, 4, false, (.int .u32), [.d (.int .u32 0)], [.int .u32]⟩),
  (207, ⟨1, 8, false, (.int .u64), [.d (.int .u64 0)], [.int .u64]⟩),
  (208, ⟨1, 8, false, (.int .u64), [.d (.int .u64 0)], [.int .u64]⟩),
  (9, ⟨1, 16, false, .str, [.d (.str ⟨#[]⟩)], [.str]⟩),
  (213, ⟨1, 8, false, .other, [.undef], [.undef]⟩),
  (8, ⟨4, 24, true, (.st [(0, 2), (1, 3), (2, 4), (3, 6)]), [.d (.int .i64 0), .d (.int .i64 0), .d (.bool false), .d (.int .u8 0)], [.int .i64, .int .i64, .bool, .int .u8]⟩),
  (2, ⟨1, 8, false, (.int .i64), [.d (.int .i64 0)], [.int .i64]⟩),
  (6, ⟨1, 1, false, (.int .u8), [.d (.int .u8 0)], [.int .u8]⟩),
  (10, ⟨1, 16, false, .str, [.d (.str ⟨#[]⟩)], [.str]⟩),
  (11, ⟨1, 16, false, .str, [.d (.str ⟨#[]⟩)], [.str]⟩),
  (14, ⟨2, 24, true, (.st [(0, 9), (1, 12)]), [.d (.str ⟨#[]⟩), .d (.int .u64 0)], [.str, .int .u64]⟩),
  (12, ⟨1, 8, false, (.int .u64), [.d (.int .u64 0)], [.int .u64]⟩),
  (15, ⟨1, 8, false, .other, [.undef], [.undef]⟩),
  (218, ⟨4, 40, true, (.st [(0, 17), (1, 17), (2, 17), (3, 9)]), [.undef, .undef, .undef, .d (.str ⟨#[]⟩)], [.undef, .undef, .undef, .str]⟩),
  (17, ⟨1, 8, false, .other, [.undef], [.undef]⟩),
  (229, ⟨11, 48, true, (.st [(0, 12), (1, 12), (2, 205), (3, 222), (4, 5), (5, 5), (6, 223), (7, 224), (8, 225), (9, 226), (10, 227)]), [.d (.int .u64 0), .d (.int .u64 0), .d (.int .u32 0), .d (.int .u8 0), .d (.int .u8 0), .d (.int .u8 0), .d (.int .u8 0), .undef, .undef, .d (.int .i32 0), .d (.int .i32 0)], [.int .u64, .int .u64, .int .u32, .int .u8, .int .u8, .int .u8, .int .u8, .undef, .undef, .int .i32, .int .i32]⟩),
  (222, ⟨1, 1, false, (.int .u8), [.d (.int .u8 0)], [.int .u8]⟩),
  (223, ⟨1, 1, false, (.int .u8), [.d (.int .u8 0)], [.int .u8]⟩),
  (224, ⟨1, 8, false, .other, [.undef], [.undef]⟩),
  (225, ⟨1, 8, false, .other, [.undef], [.undef]⟩),
  (226, ⟨1, 4, false, (.int .i32), [.d (.int .i32 0)], [.int .i32]⟩),
  (227, ⟨1, 4, false, (.int .i32), [.d (.int .i32 0)], [.int .i32]⟩),
  (16, ⟨1, 8, false, .other, [.undef], [.undef]⟩),
  (19, ⟨1, 8, true, (.st [(0, 17)]), [.undef], [.undef]⟩),
  (232, ⟨1, 8, false, .other, [.undef], [.undef]⟩)]
def ann7 : Ann := (.s .o (.s .o (.s .o (.s .o (.s (.s .o (.s (.s .o .o) .o)) (.s (.s .o (.s (.s .o .o) .o)) (.s (.s .o (.s (.s (.f [0, 1, 2, 3, 4, 5] 0 [0, 2, 4, 5] [(1, [2])]) .o) .o)) (.j ⟨1, [], [], [7, 3, 5, 6, 0], [], []⟩ (.j ⟨2, [], [], [7, 3, 5, 6, 0, 73], [], []⟩ (.r [0, 1, 2, 3, 4, 5, 7, 9, 6, 8, 10, 11, 12, 13, 14, 15, 16, 17] 2 16 [6, 8, 15]) (.s (.s .o .o) .o)) (.s .o (.s .o (.s (.s .o (.s (.s .o .o) .o)) (.s (.s .o (.b (.l ⟨3, [], [], [12, 9, 7, 10, 3, 5], [], []⟩ (.s (.s .o (.s .o .o)) (.s (.b (.s .o (.s .o (.j ⟨4, [], [], [9, 7, 10, 3, 5, 12, 16, 14, 15], [], []⟩ (.s .o (.s .o .o)) (.j ⟨5, [], [], [9, 7, 10, 3, 5, 12, 109], [], []⟩ .o (.s (.s .o .o) .o)))))) .o))))) (.s (.s .o (.b (.l ⟨6, [], [], [17, 3, 10], [], []⟩ (.s (.s .o (.s .o .o)) (.s (.b (.s (.r [0, 1, 2, 3, 4, 5, 6, 7, 8, 9, 10] 0 11 []) (.s (.s .o .o) .o))) .o))))) (.s .o .o))))))))))))))
def ann22 : Ann := (.s .o (.s (.s .o (.s (.s .o .o) .o)) (.s .o (.s .o (.s .o .o)))))
def ann27 : Ann := (.s .o (.s (.s .o (.s (.s .o .o) .o)) (.s .o (.s .o (.s .o .o)))))
def ann29 : Ann := (.s .o (.s (.s .o (.s (.s .o .o) .o)) (.s .o (.s .o (.s .o .o)))))
def ann30 : Ann := (.s .o (.s .o (.s .o (.s (.f [1, 2, 4, 7, 10, 12, 15, 3, 5, 6, 8, 9, 11, 13, 14, 16, 17, 18, 19, 20, 0, 21, 22] 7 [0, 3, 5, 6, 8, 9, 11, 13, 14, 16, 17, 18, 19, 22] [(20, [0])]) .o))))
def ann31 : Ann := (.s .o (.s (.s .o (.s (.s .o .o) .o)) (.s .o .o)))
def ann32 : Ann := (.s .o (.j ⟨1, [], [], [1], [], []⟩ (.j ⟨2, [], [], [1, 25], [], []⟩ .o (.s (.s .o .o) .o)) (.s .o .o)))
def ann33 : Ann := (.s .o (.s (.s .o (.s (.s .o .o) .o)) (.s .o .o)))
def ann34 : Ann := (.s .o (.s (.s .o (.s (.s .o .o) .o)) (.s .o .o)))
def ann35 : Ann := (.s .o (.j ⟨1, [], [], [1, 3], [], []⟩ .o (.s .o .o)))
def ann80 : Ann := (.s .o (.j ⟨1, [], [], [0, 1], [], []⟩ (.j ⟨2, [], [], [0, 1, 31], [], []⟩ (.r [0, 1, 2, 3, 4, 5, 6, 7, 8, 9, 10, 11, 12, 13, 14, 15, 16, 17, 18, 19, 20, 21, 22, 23] 0 24 []) (.s (.s .o .o) .o)) (.s .o (.s (.s .o (.b (.l ⟨3, [], [], [7, 6, 0, 1], [], []⟩ (.s (.s .o (.s .o .o)) (.s (.b .o) .o))))) (.s .o (.s .o .o))))))
def ann83 : Ann := (.s .o (.s (.r [0, 3, 1, 4, 2, 6, 5, 7, 8, 9] 2 5 [2, 5]) (.s .o .o)))
def ann84 : Ann := (.s .o (.j ⟨1, [], [], [0, 1], [], []⟩ (.j ⟨2, [], [], [0, 1, 15], [], []⟩ .o (.s (.s .o .o) .o)) (.s .o (.s .o (.s (.f [0, 4, 5, 1, 2, 3, 6, 7, 8, 9, 10] 3 [1, 2, 3, 6, 7, 8, 9] []) (.s .o .o))))))
def ann92 : Ann := (.s .o (.s (.s .o (.s (.s .o .o) .o)) (.s .o .o)))
def ann93 : Ann := (.s .o (.s (.s .o (.s (.s .o .o) .o)) (.s .o (.s .o (.s .o .o)))))
def ann94 : Ann := (.s .o (.s (.s .o (.s (.s .o .o) .o)) (.s .o (.s .o .o))))
def ann95 : Ann := (.s .o (.s .o (.s (.s .o (.b (.l ⟨1, [], [], [4, 0, 3], [], []⟩ (.j ⟨2, [], [], [0, 4, 3], [], []⟩ (.j ⟨3, [], [], [0, 4, 3, 15], [], []⟩ .o (.s .o .o)) (.s (.b .o) .o))))) (.s .o .o))))
def ann96 : Ann := (.s .o (.s .o (.s .o (.s (.s .o (.b (.l ⟨1, [], [(1, (4, 3)), (1, (0, 1))], [6, 3, 0, 2, 5], [], []⟩ (.s (.s .o (.s .o .o)) (.s (.b (.s .o (.s .o (.s .o .o)))) .o))))) (.j ⟨2, [], [], [2, 3, 0], [], []⟩ (.s .o (.s (.s .o (.f [0, 2, 3, 4, 5, 6, 1, 7, 8, 9] 3 [1, 4, 5, 7, 8] [(6, [1])])) .o)) (.j ⟨3, [], [(2, (0, 1))], [2, 3], [], []⟩ (.s .o (.s (.s .o (.b (.s .o (.s .o (.s .o (.s .o (.s .o (.s .o (.s .o (.s .o (.s .o (.s .o (.s .o (.s .o .o)))))))))))))) .o)) (.s .o .o)))))))
def ann97 : Ann := (.s .o (.s .o .o))
def ann98 : Ann := (.s .o (.s (.r [0, 1, 2, 3, 4, 5, 6, 7, 8, 9, 10, 11, 12, 13, 14] 0 15 []) .o))
def ann99 : Ann := (.s .o (.s .o .o))
def ann119 : Ann := (.s .o (.s (.s .o (.s (.s .o .o) .o)) (.s (.s .o (.s (.s .o .o) .o)) (.s .o (.s .o (.s .o (.s .o (.s .o .o))))))))
def ann130 : Ann := (.s .o (.s .o .o))
def ann137 : Ann := (.s .o (.s (.s .o (.s (.s .o .o) .o)) (.s .o .o)))
def ann138 : Ann := (.s .o (.s (.s .o (.s (.s .o .o) .o)) (.s .o .o)))
def ann140 : Ann := (.s .o (.s .o .o))
def ann141 : Ann := (.j ⟨1, [], [], [0, 1], [], []⟩ (.s .o (.s .o .o)) (.f [0, 1, 5, 6, 10, 2, 3, 4, 7, 8, 9, 11, 12, 13, 14, 15, 16, 17, 18, 19] 5 [2, 3, 4, 7, 8, 9, 11, 12, 13, 14, 15, 17, 18] []))
def ann142 : Ann := (.s .o (.j ⟨1, [], [], [0, 2, 1], [], []⟩ (.j ⟨2, [], [], [0, 2, 1, 24], [], []⟩ .o (.s (.s .o .o) .o)) (.j ⟨3, [], [], [0, 2, 1], [], []⟩ (.s .o (.s .o .o)) (.s (.f [0, 1, 5, 6, 8, 12, 2, 3, 4, 7, 9, 10, 11, 13, 14, 15, 16, 17, 18, 19, 20, 21] 6 [2, 3, 4, 7, 9, 10, 11, 13, 14, 15, 16, 17, 19, 20] []) (.s .o .o)))))
def ann143 : Ann := (.s .o (.j ⟨1, [], [], [2, 0], [], []⟩ (.j ⟨2, [], [], [2, 0, 9], [], []⟩ .o (.s (.s .o .o) .o)) (.s .o .o)))
def ann144 : Ann := (.s .o (.s (.s .o (.b (.s .o (.s (.s .o .o) (.s .o (.s (.s .o .o) (.s .o (.s (.s .o .o) .o)))))))) (.s .o .o)))
def ann154 : Ann := (.s .o (.s .o (.s (.r [0, 1, 2, 3, 4, 5, 6, 7, 8, 9, 10, 11, 12] 0 13 []) (.s (.s (.r [0, 1, 2, 3, 4, 5, 6, 7, 8, 9] 0 10 []) (.s (.s (.f [0, 1, 5, 2, 3, 4, 6, 7, 8, 9, 10, 11, 12, 13, 14] 3 [2, 3, 4, 6, 7, 8, 9, 10, 11, 12, 13] []) .o) .o)) (.s .o .o)))))
def ann159 : Ann := (.s .o (.s (.f [0, 1, 5, 2, 3, 4, 6, 7, 8, 9, 10, 11] 3 [2, 3, 4, 6, 7, 8, 9, 11] []) .o))
def ann160 : Ann := (.s .o (.s (.s .o (.b (.s .o (.s (.s .o .o) (.s .o (.s (.s .o .o) (.s .o (.s (.s .o .o) (.s .o (.s (.s .o .o) .o)))))))))) (.s .o .o)))
noncomputable def I7 : FnI := ⟨Try.f7, Try.f7.body.getD .skip, [false], [], false, [], .m (.one (.bool)), [], [], [], ann7⟩
noncomputable def I22 : FnI := ⟨Try.f22, Try.f22.body.getD .skip, [true, false], [], true, [(0, 0, 1), (0, 4, 3)], .tup [.agg [.own 1000, .int .i64, .int .i64, .int .i64, .own 1001], .one (.int .i64), .one .bool], [], [.row 1 false true, .row 3 false true], [], ann22⟩
noncomputable def I27 : FnI := ⟨Try.f27, Try.f27.body.getD .skip, [true, false, false], [], true, [(0, 0, 1), (0, 4, 3)], .tup [.agg [.own 1000, .int .i64, .int .i64, .int .i64, .own 1001], .one (.int .i64), .one .bool], [], [.row 1 false true, .row 3 false true], [], ann27⟩
noncomputable def I29 : FnI := ⟨Try.f29, Try.f29.body.getD .skip, [true, false, false, false], [], true, [(0, 0, 1), (0, 4, 3)], .tup [.agg [.own 1000, .int .i64, .int .i64, .int .i64, .own 1001], .one .bool], [], [.row 1 false true, .row 3 false true], [], ann29⟩
noncomputable def I30 : FnI := ⟨Try.f30, Try.f30.body.getD .skip, [false], [], false, [], .tup [.agg [.sl 1, .int .i64, .int .i64, .int .i64, .sl 3], .one (.int .i64)], [], [], [], ann30⟩
noncomputable def I31 : FnI := ⟨Try.f31, Try.f31.body.getD .skip, [false, false], [], false, [], .m (.one (.int .i64)), [], [], [], ann31⟩
noncomputable def I32 : FnI := ⟨Try.f32, Try.f32.body.getD .skip, [true], [], false, [], .m (.one (.bool)), [], [], [], ann32⟩
noncomputable def I33 : FnI := ⟨Try.f33, Try.f33.body.getD .skip, [true], [], false, [], .m (.one (.int .i64)), [], [], [], ann33⟩
noncomputable def I34 : FnI := ⟨Try.f34, Try.f34.body.getD .skip, [true], [], false, [], .m (.one (.int .i64)), [], [], [], ann34⟩
noncomputable def I35 : FnI := ⟨Try.f35, Try.f35.body.getD .skip, [true], [], false, [], .m (.one (.bool)), [], [], [], ann35⟩
noncomputable def I80 : FnI := ⟨Try.f80, Try.f80.body.getD .skip, [true, false], [], false, [], .tup [.one (.int .i64), .one (.bool)], [], [], [], ann80⟩
noncomputable def I83 : FnI := ⟨Try.f83, Try.f83.body.getD .skip, [true], [], true, [], .m (.agg [.own 1000, .int .i64, .int .i64, .int .i64, .own 1001]), [], [.row 1 false true, .row 3 false true], [], ann83⟩
noncomputable def I84 : FnI := ⟨Try.f84, Try.f84.body.getD .skip, [true, false], [], false, [], .tup [.one (.int .i64), .one (.bool)], [], [], [], ann84⟩
noncomputable def I92 : FnI := ⟨Try.f92, Try.f92.body.getD .skip, [true, false, false], [], false, [], .tup [.one (.int .i64), .one (.bool)], [.box [], .row 1 false false, .row 3 false true], [], [], ann92⟩
noncomputable def I93 : FnI := ⟨Try.f93, Try.f93.body.getD .skip, [true, false, false, false], [], false, [], .m (.one (.bool)), [.box [], .row 1 false false, .row 3 false true], [], [], ann93⟩
noncomputable def I94 : FnI := ⟨Try.f94, Try.f94.body.getD .skip, [true, false, false, false], [], false, [], .m (.one (.bool)), [.box [], .row 1 false false, .row 3 false true], [], [], ann94⟩
noncomputable def I95 : FnI := ⟨Try.f95, Try.f95.body.getD .skip, [false], [], true, [], .m (.one (.ptr 1000 0)), [], [.box [.sl 1, .int .i64, .int .i64]], [], ann95⟩
noncomputable def I96 : FnI := ⟨Try.f96, Try.f96.body.getD .skip, [true], [], false, [], .m (.agg [.sl 1, .int .i64, .int .i64, .int .i64, .sl 3]), [], [], [], ann96⟩
noncomputable def I97 : FnI := ⟨Try.f97, Try.f97.body.getD .skip, [true, false], [], false, [], .m (.one (.int .i64)), [], [], [], ann97⟩
noncomputable def I98 : FnI := ⟨Try.f98, Try.f98.body.getD .skip, [true], [], false, [], .m (.one (.int .i64)), [], [], [], ann98⟩
noncomputable def I99 : FnI := ⟨Try.f99, Try.f99.body.getD .skip, [false, false, false], [], false, [], .m (.one (.bool)), [], [], [], ann99⟩
noncomputable def I119 : FnI := ⟨Try.f119, Try.f119.body.getD .skip, [true, false], [], false, [], .m (.one (.int .i64)), [], [], [], ann119⟩
noncomputable def I130 : FnI := ⟨Try.f130, Try.f130.body.getD .skip, [true, false], [], false, [], .m (.one (.bool)), [], [], [], ann130⟩
noncomputable def I137 : FnI := ⟨Try.f137, Try.f137.body.getD .skip, [true], [], true, [(0, 0, 1)], .m (.one (.own 1000)), [], [.row 1 false true], [], ann137⟩
noncomputable def I138 : FnI := ⟨Try.f138, Try.f138.body.getD .skip, [true], [], true, [(0, 0, 3)], .m (.one (.own 1000)), [], [.row 3 false true], [], ann138⟩
noncomputable def I140 : FnI := ⟨Try.f140, Try.f140.body.getD .skip, [true, false, false], [], false, [], .m (.one (.bool)), [], [], [], ann140⟩
noncomputable def I141 : FnI := ⟨Try.f141, Try.f141.body.getD .skip, [true, false], [], false, [], .tup [], [.box [], .row 1 false false, .row 3 false true], [], [], ann141⟩
noncomputable def I142 : FnI := ⟨Try.f142, Try.f142.body.getD .skip, [true, false, false], [], false, [], .m (.one (.bool)), [.box [], .row 1 false false, .row 3 false true], [], [], ann142⟩
noncomputable def I143 : FnI := ⟨Try.f143, Try.f143.body.getD .skip, [false], [], true, [(0, 0, 1), (0, 4, 3)], .tup [.agg [.own 1000, .int .i64, .int .i64, .int .i64, .own 1001], .one .bool], [], [.row 1 false true, .row 3 false true], [], ann143⟩
noncomputable def I144 : FnI := ⟨Try.f144, Try.f144.body.getD .skip, [true], [], false, [], .m (.one (.int .i64)), [], [], [], ann144⟩
noncomputable def I154 : FnI := ⟨Try.f154, Try.f154.body.getD .skip, [true], [], false, [], .m (.one (.int .i64)), [], [], [], ann154⟩
noncomputable def I159 : FnI := ⟨Try.f159, Try.f159.body.getD .skip, [true, false], [], false, [], .m (.one (.bool)), [], [], [], ann159⟩
noncomputable def I160 : FnI := ⟨Try.f160, Try.f160.body.getD .skip, [true], [], false, [], .m (.one (.int .i64)), [], [], [], ann160⟩
noncomputable def fnsL : List (Nat × FnI) := [(7, I7), (22, I22), (27, I27), (29, I29), (30, I30), (31, I31), (32, I32), (33, I33), (34, I34), (35, I35), (80, I80), (83, I83), (84, I84), (92, I92), (93, I93), (94, I94), (95, I95), (96, I96), (97, I97), (98, I98), (99, I99), (119, I119), (130, I130), (137, I137), (138, I138), (140, I140), (141, I141), (142, I142), (143, I143), (144, I144), (154, I154), (159, I159), (160, I160)]
noncomputable def cx : Cx := ⟨tyL, fnsL⟩
noncomputable def laws_FnPlaces (x0 : Sl) : Res := evF cx 7 [(.d (.sl false 1 x0.1 x0.2))] []
noncomputable def spec_DrawAlloc (x0 : Sl) : Res := evF cx 30 [(.d (.sl false 1 x0.1 x0.2))] []
noncomputable def laws_at (x0 : Sl) (x1 : Int) : Res := evF cx 31 [(.d (.sl false 1 x0.1 x0.2)), (.d (.int .i64 x1))] []
noncomputable def impl_Alloc (x0 : T_Heap) (x1 : Int) : Res := evF cx 22 [(.agg (LS.encs sh_Heap x0)), (.d (.int .i64 x1))] []
noncomputable def spec_HeapOk (x0 : T_Heap) : Res := evF cx 32 [(.agg (LS.encs sh_Heap x0))] []
noncomputable def spec_HeapRoom (x0 : T_Heap) : Res := evF cx 33 [(.agg (LS.encs sh_Heap x0))] []
noncomputable def impl_HeapRoom (x0 : Int) (x1 : Int) (x2 : Int) (x3 : Sl) (x4 : Sl) : Res := evF cx 34 [(.agg [(.own 0), (.d (.int .i64 x0)), (.d (.int .i64 x1)), (.d (.int .i64 x2)), (.own 1)])] [(.row 1 x3.1 false false x3.2), (.row 3 x4.1 false false x4.2)]
noncomputable def impl_HeapOk (x0 : Int) (x1 : Int) (x2 : Int) (x3 : Sl) (x4 : Sl) : Res := evF cx 35 [(.agg [(.own 0), (.d (.int .i64 x0)), (.d (.int .i64 x1)), (.d (.int .i64 x2)), (.own 1)])] [(.row 1 x3.1 false false x3.2), (.row 3 x4.1 false false x4.2)]
noncomputable def impl_Store (x0 : Int) (x1 : Int) (x2 : Int) (x3 : Int) (x4 : Int) (x5 : Int) (x6 : Sl) (x7 : Sl) : Res := evF cx 29 [(.agg [(.own 0), (.d (.int .i64 x0)), (.d (.int .i64 x1)), (.d (.int .i64 x2)), (.own 1)]), (.d (.int .i64 x3)), (.d (.int .i64 x4)), (.d (.int .i64 x5))] [(.row 1 x6.1 false false x6.2), (.row 3 x7.1 false false x7.2)]
noncomputable def impl_Load (x0 : Int) (x1 : Int) (x2 : Int) (x3 : Int) (x4 : Int) (x5 : Sl) (x6 : Sl) : Res := evF cx 27 [(.agg [(.own 0), (.d (.int .i64 x0)), (.d (.int .i64 x1)), (.d (.int .i64 x2)), (.own 1)]), (.d (.int .i64 x3)), (.d (.int .i64 x4))] [(.row 1 x5.1 false false x5.2), (.row 3 x6.1 false false x6.2)]
noncomputable def spec_l1New (x0 : Sl) : Res := evF cx 95 [(.d (.sl false 1 x0.1 x0.2))] []
noncomputable def spec_l2heap (x0 : T_l1Cur) : Res := evF cx 96 [(.ptr 0 0)] [(.box (LS.encs sh_l1Cur x0))]
noncomputable def spec_l1PickInt (x0 : Sl) (x1 : T_l1Cur) : Res := evF cx 97 [(.ptr 0 0), (.d (.sl false 1 x0.1 x0.2))] [(.box (LS.encs sh_l1Cur x1))]
noncomputable def impl_HeapOk_v2 (x0 : T_Heap) : Res := evF cx 35 [(.agg (LS.encs sh_Heap x0))] []
noncomputable def impl_cloneHeap (x0 : T_Heap) : Res := evF cx 83 [(.agg (LS.encs sh_Heap x0))] []
noncomputable def impl_Heap_alloc (x0 : Int) (x1 : Int) (x2 : Int) (x3 : Int) (x4 : Sl) (x5 : Sl) : Res := evF cx 84 [(.ptr 0 0), (.d (.int .i64 x0))] [(.box [(.own 1), (.d (.int .i64 x1)), (.d (.int .i64 x2)), (.d (.int .i64 x3)), (.own 2)]), (.row 1 x4.1 false false x4.2), (.row 3 x5.1 false false x5.2)]
noncomputable def impl_Heap_room (x0 : Int) (x1 : Int) (x2 : Int) (x3 : Sl) (x4 : Sl) : Res := evF cx 98 [(.ptr 0 0)] [(.box [(.own 1), (.d (.int .i64 x0)), (.d (.int .i64 x1)), (.d (.int .i64 x2)), (.own 2)]), (.row 1 x3.1 false false x3.2), (.row 3 x4.1 false false x4.2)]
noncomputable def impl_within (x0 : Int) (x1 : Int) (x2 : Int) : Res := evF cx 99 [(.d (.int .i64 x0)), (.d (.int .i64 x1)), (.d (.int .i64 x2))] []
noncomputable def impl_cloneHeap_v2 (x0 : Int) (x1 : Int) (x2 : Int) (x3 : Sl) (x4 : Sl) : Res := evF cx 83 [(.agg [(.own 0), (.d (.int .i64 x0)), (.d (.int .i64 x1)), (.d (.int .i64 x2)), (.own 1)])] [(.row 1 x3.1 false false x3.2), (.row 3 x4.1 false false x4.2)]
noncomputable def impl_Heap_store (x0 : Int) (x1 : Int) (x2 : Int) (x3 : Int) (x4 : Int) (x5 : Int) (x6 : Sl) (x7 : Sl) : Res := evF cx 94 [(.ptr 0 0), (.d (.int .i64 x0)), (.d (.int .i64 x1)), (.d (.int .i64 x2))] [(.box [(.own 1), (.d (.int .i64 x3)), (.d (.int .i64 x4)), (.d (.int .i64 x5)), (.own 2)]), (.row 1 x6.1 false false x6.2), (.row 3 x7.1 false false x7.2)]
noncomputable def impl_Heap_load (x0 : Int) (x1 : Int) (x2 : Int) (x3 : Int) (x4 : Int) (x5 : Sl) (x6 : Sl) : Res := evF cx 92 [(.ptr 0 0), (.d (.int .i64 x0)), (.d (.int .i64 x1))] [(.box [(.own 1), (.d (.int .i64 x2)), (.d (.int .i64 x3)), (.d (.int .i64 x4)), (.own 2)]), (.row 1 x5.1 false false x5.2), (.row 3 x6.1 false false x6.2)]
noncomputable def spec_l1Below (x0 : Int) (x1 : T_l1Cur) : Res := evF cx 119 [(.ptr 0 0), (.d (.int .i64 x0))] [(.box (LS.encs sh_l1Cur x1))]
noncomputable def spec_HeapNew (x0 : Int) : Res := evF cx 143 [(.d (.int .i64 x0))] []
noncomputable def spec_l2alloc (x0 : Int) (x1 : Int) (x2 : Int) (x3 : Int) (x4 : Sl) (x5 : Sl) : Res := evF cx 80 [(.ptr 0 0), (.d (.int .i64 x0))] [(.box [(.own 1), (.d (.int .i64 x1)), (.d (.int .i64 x2)), (.d (.int .i64 x3)), (.own 2)]), (.row 1 x4.1 false false x4.2), (.row 3 x5.1 false false x5.2)]
noncomputable def spec_l1signed (x0 : T_l1Cur) : Res := evF cx 144 [(.ptr 0 0)] [(.box (LS.encs sh_l1Cur x0))]
noncomputable def spec_l2store (x0 : Int) (x1 : Int) (x2 : Int) (x3 : Int) (x4 : Int) (x5 : Int) (x6 : Sl) (x7 : Sl) : Res := evF cx 93 [(.ptr 0 0), (.d (.int .i64 x0)), (.d (.int .i64 x1)), (.d (.int .i64 x2))] [(.box [(.own 1), (.d (.int .i64 x3)), (.d (.int .i64 x4)), (.d (.int .i64 x5)), (.own 2)]), (.row 1 x6.1 false false x6.2), (.row 3 x7.1 false false x7.2)]
noncomputable def spec_l1Once (x0 : Int) (x1 : T_l1Cur) : Res := evF cx 130 [(.ptr 0 0), (.d (.int .i64 x0))] [(.box (LS.encs sh_l1Cur x1))]
noncomputable def slices_Clone_int_int (x0 : Sl) : Res := evF cx 137 [(.d (.sl false 1 x0.1 x0.2))] []
noncomputable def slices_Clone_impl_Access_impl_Access (x0 : Sl) : Res := evF cx 138 [(.d (.sl false 3 x0.1 x0.2))] []
noncomputable def slices_Clone_int_int_o (x0 : Sl) : Res := evF cx 137 [(.own 0)] [(.row 1 x0.1 false false x0.2)]
noncomputable def slices_Clone_impl_Access_impl_Access_o (x0 : Sl) : Res := evF cx 138 [(.own 0)] [(.row 3 x0.1 false false x0.2)]
noncomputable def impl_Heap_touch (x0 : Int) (x1 : Int) (x2 : Int) (x3 : Int) (x4 : Int) (x5 : Sl) (x6 : Sl) : Res := evF cx 142 [(.ptr 0 0), (.d (.int .i64 x0)), (.d (.int .i64 x1))] [(.box [(.own 1), (.d (.int .i64 x2)), (.d (.int .i64 x3)), (.d (.int .i64 x4)), (.own 2)]), (.row 1 x5.1 false false x5.2), (.row 3 x6.1 false false x6.2)]
noncomputable def spec_l1Byte (x0 : T_l1Cur) : Res := evF cx 154 [(.ptr 0 0)] [(.box (LS.encs sh_l1Cur x0))]
noncomputable def spec_l1num (x0 : T_l1Cur) : Res := evF cx 160 [(.ptr 0 0)] [(.box (LS.encs sh_l1Cur x0))]
noncomputable def spec_l2in (x0 : Int) (x1 : Int) (x2 : Int) (x3 : Int) (x4 : Int) (x5 : Sl) (x6 : Sl) : Res := evF cx 140 [(.ptr 0 0), (.d (.int .i64 x0)), (.d (.int .i64 x1))] [(.box [(.own 1), (.d (.int .i64 x2)), (.d (.int .i64 x3)), (.d (.int .i64 x4)), (.own 2)]), (.row 1 x5.1 false false x5.2), (.row 3 x6.1 false false x6.2)]
noncomputable def spec_l2log (x0 : Int) (x1 : Int) (x2 : Int) (x3 : Int) (x4 : Sl) (x5 : Sl) : Res := evF cx 141 [(.ptr 0 0), (.d (.int .i64 x0))] [(.box [(.own 1), (.d (.int .i64 x1)), (.d (.int .i64 x2)), (.d (.int .i64 x3)), (.own 2)]), (.row 1 x4.1 false false x4.2), (.row 3 x5.1 false false x5.2)]
noncomputable def impl_Heap_taken (x0 : Int) (x1 : Int) (x2 : Int) (x3 : Int) (x4 : Sl) (x5 : Sl) : Res := evF cx 159 [(.ptr 0 0), (.d (.int .i64 x0))] [(.box [(.own 1), (.d (.int .i64 x1)), (.d (.int .i64 x2)), (.d (.int .i64 x3)), (.own 2)]), (.row 1 x4.1 false false x4.2), (.row 3 x5.1 false false x5.2)]
noncomputable def laws_FnPlaces_j2 (x0 : Int) (x1 : Int) (x2 : Sl) (x3 : Bool) (x4 : T_Heap) (x5 : Int) (x6 : Int) (x7 : Int) (x8 : Sl) (x9 : Sl) : Res := (fun (p : Env × Mem) => evI cx 7 0 2 p.1 p.2) ([(7, (.d (.int .i64 x0))), (3, (.ptr 0 0)), (5, (.d (.int .i64 x1))), (6, (.ptr 1 0)), (0, (.d (.sl false 1 x2.1 x2.2))), (73, (.d (.bool x3)))], [(.box (LS.encs sh_Heap x4)), (.box [(.own 2), (.d (.int .i64 x5)), (.d (.int .i64 x6)), (.d (.int .i64 x7)), (.own 3)]), (.row 1 x8.1 false true x8.2), (.row 3 x9.1 false true x9.2)])
noncomputable def laws_FnPlaces_j1 (x0 : Int) (x1 : Int) (x2 : Sl) (x3 : T_Heap) (x4 : Int) (x5 : Int) (x6 : Int) (x7 : Sl) (x8 : Sl) : Res := (fun (p : Env × Mem) => evI cx 7 0 1 p.1 p.2) ([(7, (.d (.int .i64 x0))), (3, (.ptr 0 0)), (5, (.d (.int .i64 x1))), (6, (.ptr 1 0)), (0, (.d (.sl false 1 x2.1 x2.2)))], [(.box (LS.encs sh_Heap x3)), (.box [(.own 2), (.d (.int .i64 x4)), (.d (.int .i64 x5)), (.d (.int .i64 x6)), (.own 3)]), (.row 1 x7.1 false true x7.2), (.row 3 x8.1 false true x8.2)])
noncomputable def laws_FnPlaces_j3 (x0 : Int) (x1 : Int) (x2 : Int) (x3 : Int) (x4 : Int) (x5 : Int) (x6 : Int) (x7 : T_Heap) (x8 : Sl) (x9 : Sl) : Res := (fun (p : Env × Mem) => evI cx 7 0 3 p.1 p.2) ([(12, (.d (.int .i64 x0))), (9, (.d (.int .i64 x1))), (7, (.d (.int .i64 x2))), (10, (.ptr 0 0)), (3, (.ptr 1 0)), (5, (.d (.int .i64 x3)))], [(.box [(.own 2), (.d (.int .i64 x4)), (.d (.int .i64 x5)), (.d (.int .i64 x6)), (.own 3)]), (.box (LS.encs sh_Heap x7)), (.row 1 x8.1 false true x8.2), (.row 3 x9.1 false true x9.2)])
noncomputable def laws_FnPlaces_j4 (x0 : Int) (x1 : Int) (x2 : Int) (x3 : Int) (x4 : Int) (x5 : Int) (x6 : Bool) (x7 : Int) (x8 : Int) (x9 : Int) (x10 : T_Heap) (x11 : Sl) (x12 : Sl) : Res := (fun (p : Env × Mem) => evI cx 7 0 4 p.1 p.2) ([(9, (.d (.int .i64 x0))), (7, (.d (.int .i64 x1))), (10, (.ptr 0 0)), (3, (.ptr 1 0)), (5, (.d (.int .i64 x2))), (12, (.d (.int .i64 x3))), (16, (.d (.int .i64 x4))), (14, (.d (.int .i64 x5))), (15, (.d (.bool x6)))], [(.box [(.own 2), (.d (.int .i64 x7)), (.d (.int .i64 x8)), (.d (.int .i64 x9)), (.own 3)]), (.box (LS.encs sh_Heap x10)), (.row 1 x11.1 false true x11.2), (.row 3 x12.1 false true x12.2)])
noncomputable def laws_FnPlaces_j6 (x0 : Int) (x1 : T_Heap) (x2 : Int) (x3 : Int) (x4 : Int) (x5 : Sl) (x6 : Sl) : Res := (fun (p : Env × Mem) => evI cx 7 0 6 p.1 p.2) ([(17, (.d (.int .i64 x0))), (3, (.ptr 0 0)), (10, (.ptr 1 0))], [(.box (LS.encs sh_Heap x1)), (.box [(.own 2), (.d (.int .i64 x2)), (.d (.int .i64 x3)), (.d (.int .i64 x4)), (.own 3)]), (.row 1 x5.1 false true x5.2), (.row 3 x6.1 false true x6.2)])
noncomputable def laws_FnPlaces_j5 (x0 : Int) (x1 : Int) (x2 : Int) (x3 : Int) (x4 : Bool) (x5 : Int) (x6 : Int) (x7 : Int) (x8 : T_Heap) (x9 : Sl) (x10 : Sl) : Res := (fun (p : Env × Mem) => evI cx 7 0 5 p.1 p.2) ([(9, (.d (.int .i64 x0))), (7, (.d (.int .i64 x1))), (10, (.ptr 0 0)), (3, (.ptr 1 0)), (5, (.d (.int .i64 x2))), (12, (.d (.int .i64 x3))), (109, (.d (.bool x4)))], [(.box [(.own 2), (.d (.int .i64 x5)), (.d (.int .i64 x6)), (.d (.int .i64 x7)), (.own 3)]), (.box (LS.encs sh_Heap x8)), (.row 1 x9.1 false true x9.2), (.row 3 x10.1 false true x10.2)])
theorem laws_FnPlaces_eq (x0 : Sl) : laws_FnPlaces x0 =
  ocall (.tup [(.agg sh_Heap), (.one (.int .i64))]) [] (spec_DrawAlloc x0) fun (r0 : (T_Heap × (Int × Unit))) (m1 : Unit) =>
  ocall (.m (.one (.int .i64))) [] (laws_at x0 (1 : Int)) fun (r2 : Int) (m3 : Unit) =>
  oguard true (
  ocall (.tup [(.agg [(.own 0), (.int .i64), (.int .i64), (.int .i64), (.own 1)]), (.one (.int .i64)), (.one .bool)]) [(.row 1 false true), (.row 3 false true)] (impl_Alloc r0.1 (w64 ((1 : Int) + (Int.tmod r2 (9 : Int))))) fun (r4 : ((Unit × (Int × (Int × (Int × (Unit × Unit))))) × (Int × (Bool × Unit)))) (m5 : (Sl × (Sl × Unit))) =>
  ocall (.m (.one .bool)) [] (spec_HeapOk r0.1) fun (r6 : Bool) (m7 : Unit) =>
  oite (!r6)
    (oite (!r4.2.2.1)
      (some ((.d (.bool (r4.2.1 == (0 : Int)))), []))
      (some ((.d (.bool false)), [])))
    (ocall (.m (.one (.int .i64))) [] (spec_HeapRoom r0.1) fun (r8 : Int) (m9 : Unit) =>
    oite (!(r4.2.2.1 == (decide ((w64 ((1 : Int) + (Int.tmod r2 (9 : Int)))) ≤ r8))))
      (some ((.d (.bool false)), []))
      (oite (!r4.2.2.1)
        (ocall (.m (.one (.int .i64))) [(.row 1 false false), (.row 3 false false)] (impl_HeapRoom r4.1.2.1 r4.1.2.2.1 r4.1.2.2.2.1 m5.1 m5.2.1) fun (r10 : Int) (m11 : (Sl × (Sl × Unit))) =>
        osame (α := List V) [(.agg [(.d (.sl false 1 r0.1.1.1 r0.1.1.2)), (.d (.int .i64 r0.1.2.1)), (.d (.int .i64 r0.1.2.2.1)), (.d (.int .i64 r0.1.2.2.2.1)), (.d (.sl false 3 r0.1.2.2.2.2.1.1 r0.1.2.2.2.2.1.2))])] [(.agg [(.d (.sl false 1 r0.1.1.1 r0.1.1.2)), (.d (.int .i64 r0.1.2.1)), (.d (.int .i64 r0.1.2.2.1)), (.d (.int .i64 r0.1.2.2.2.1)), (.d (.sl false 3 r0.1.2.2.2.2.1.1 r0.1.2.2.2.2.1.2))])] (
        ocall (.m (.one (.int .i64))) [] (spec_HeapRoom r0.1) fun (r12 : Int) (m13 : Unit) =>
        some ((.d (.bool (r10 == r12))), [])))
        (oite (!(r4.2.1 == r0.1.2.2.2.1))
          (laws_FnPlaces_j2 r4.2.1 (w64 ((1 : Int) + (Int.tmod r2 (9 : Int)))) x0 true r0.1 r4.1.2.1 r4.1.2.2.1 r4.1.2.2.2.1 m5.1 m5.2.1)
          (ocall (.m (.one (.int .i64))) [(.row 1 false false), (.row 3 false false)] (impl_HeapRoom r4.1.2.1 r4.1.2.2.1 r4.1.2.2.2.1 m5.1 m5.2.1) fun (r14 : Int) (m15 : (Sl × (Sl × Unit))) =>
          osame (α := List V) [(.d (.sl false 1 r0.1.1.1 r0.1.1.2)), (.d (.int .i64 r0.1.2.1)), (.d (.int .i64 r0.1.2.2.1)), (.d (.int .i64 r0.1.2.2.2.1)), (.d (.sl false 3 r0.1.2.2.2.2.1.1 r0.1.2.2.2.2.1.2))] [(.d (.sl false 1 r0.1.1.1 r0.1.1.2)), (.d (.int .i64 r0.1.2.1)), (.d (.int .i64 r0.1.2.2.1)), (.d (.int .i64 r0.1.2.2.2.1)), (.d (.sl false 3 r0.1.2.2.2.2.1.1 r0.1.2.2.2.2.1.2))] (
          osame (α := Nat × List (List D)) (m5.1.1, m5.1.2) (m15.1.1, m15.1.2) (
          osame (α := Nat × List (List D)) (m5.2.1.1, m5.2.1.2) (m15.2.1.1, m15.2.1.2) (
          osame (α := List V) [(.own 1), (.d (.int .i64 r4.1.2.1)), (.d (.int .i64 r4.1.2.2.1)), (.d (.int .i64 r4.1.2.2.2.1)), (.own 2)] [(.own 1), (.d (.int .i64 r4.1.2.1)), (.d (.int .i64 r4.1.2.2.1)), (.d (.int .i64 r4.1.2.2.2.1)), (.own 2)] (
          ocall (.m (.one (.int .i64))) [] (spec_HeapRoom r0.1) fun (r16 : Int) (m17 : Unit) =>
          oite (!(r14 == (w64 (r16 - (w64 ((1 : Int) + (Int.tmod r2 (9 : Int))))))))
            (laws_FnPlaces_j2 r4.2.1 (w64 ((1 : Int) + (Int.tmod r2 (9 : Int)))) x0 true r0.1 r4.1.2.1 r4.1.2.2.1 r4.1.2.2.2.1 m5.1 m5.2.1)
            (ocall (.m (.one .bool)) [(.row 1 false false), (.row 3 false false)] (impl_HeapOk r4.1.2.1 r4.1.2.2.1 r4.1.2.2.2.1 m5.1 m5.2.1) fun (r18 : Bool) (m19 : (Sl × (Sl × Unit))) =>
            osame (α := List V) [(.d (.sl false 1 r0.1.1.1 r0.1.1.2)), (.d (.int .i64 r0.1.2.1)), (.d (.int .i64 r0.1.2.2.1)), (.d (.int .i64 r0.1.2.2.2.1)), (.d (.sl false 3 r0.1.2.2.2.2.1.1 r0.1.2.2.2.2.1.2))] [(.d (.sl false 1 r0.1.1.1 r0.1.1.2)), (.d (.int .i64 r0.1.2.1)), (.d (.int .i64 r0.1.2.2.1)), (.d (.int .i64 r0.1.2.2.2.1)), (.d (.sl false 3 r0.1.2.2.2.2.1.1 r0.1.2.2.2.2.1.2))] (
            osame (α := Nat × List (List D)) (m5.1.1, m5.1.2) (m19.1.1, m19.1.2) (
            osame (α := Nat × List (List D)) (m5.2.1.1, m5.2.1.2) (m19.2.1.1, m19.2.1.2) (
            osame (α := List V) [(.own 1), (.d (.int .i64 r4.1.2.1)), (.d (.int .i64 r4.1.2.2.1)), (.d (.int .i64 r4.1.2.2.2.1)), (.own 2)] [(.own 1), (.d (.int .i64 r4.1.2.1)), (.d (.int .i64 r4.1.2.2.1)), (.d (.int .i64 r4.1.2.2.2.1)), (.own 2)] (
            laws_FnPlaces_j2 r4.2.1 (w64 ((1 : Int) + (Int.tmod r2 (9 : Int)))) x0 (!r18) r0.1 r4.1.2.1 r4.1.2.2.1 r4.1.2.2.2.1 m5.1 m5.2.1)))))))))))))) := (evF_eq ..).trans (by kernel_rfl)
theorem laws_FnPlaces_j2_eq (x0 : Int) (x1 : Int) (x2 : Sl) (x3 : Bool) (x4 : T_Heap) (x5 : Int) (x6 : Int) (x7 : Int) (x8 : Sl) (x9 : Sl) : laws_FnPlaces_j2 x0 x1 x2 x3 x4 x5 x6 x7 x8 x9 =
  oite x3
    (some ((.d (.bool false)), []))
    (laws_FnPlaces_j1 x0 x1 x2 x4 x5 x6 x7 x8 x9) := (evI_eq ..).trans (by kernel_rfl)
theorem laws_FnPlaces_j1_eq (x0 : Int) (x1 : Int) (x2 : Sl) (x3 : T_Heap) (x4 : Int) (x5 : Int) (x6 : Int) (x7 : Sl) (x8 : Sl) : laws_FnPlaces_j1 x0 x1 x2 x3 x4 x5 x6 x7 x8 =
  ocall (.m (.one (.int .i64))) [] (laws_at x2 (2 : Int)) fun (r20 : Int) (m21 : Unit) =>
  oguard (decide (x1 ≠ (0 : Int))) (
  ocall (.tup [(.agg [(.own (0 + (List.length ((Ent.row 1 x7.1 false false x7.2) :: ((Ent.row 3 x8.1 false false x8.2) :: []))))), (.int .i64), (.int .i64), (.int .i64), (.own (1 + (List.length ((Ent.row 1 x7.1 false false x7.2) :: ((Ent.row 3 x8.1 false false x8.2) :: [])))))]), (.one .bool)]) [(.row 1 false false), (.row 3 false false), (.row 1 false true), (.row 3 false true)] (impl_Store x4 x5 x6 x0 (Int.tmod r20 x1) (77 : Int) x7 x8) fun (r22 : ((Unit × (Int × (Int × (Int × (Unit × Unit))))) × (Bool × Unit))) (m23 : (Sl × (Sl × (Sl × (Sl × Unit))))) =>
  oite (!r22.2.1)
    (some ((.d (.bool false)), []))
    (laws_FnPlaces_j3 (0 : Int) (Int.tmod r20 x1) x0 x1 r22.1.2.1 r22.1.2.2.1 r22.1.2.2.2.1 x3 m23.2.2.1 m23.2.2.2.1)) := (evI_eq ..).trans (by kernel_rfl)
-- a loop's head
theorem laws_FnPlaces_j3_eq (x0 : Int) (x1 : Int) (x2 : Int) (x3 : Int) (x4 : Int) (x5 : Int) (x6 : Int) (x7 : T_Heap) (x8 : Sl) (x9 : Sl) : laws_FnPlaces_j3 x0 x1 x2 x3 x4 x5 x6 x7 x8 x9 =
  oite (decide (x0 < x3))
    (ocall (.tup [(.agg [(.own (0 + (List.length ((Ent.row 1 x8.1 false false x8.2) :: ((Ent.row 3 x9.1 false false x9.2) :: []))))), (.int .i64), (.int .i64), (.int .i64), (.own (1 + (List.length ((Ent.row 1 x8.1 false false x8.2) :: ((Ent.row 3 x9.1 false false x9.2) :: [])))))]), (.one (.int .i64)), (.one .bool)]) [(.row 1 false false), (.row 3 false false), (.row 1 false true), (.row 3 false true)] (impl_Load x4 x5 x6 x2 x0 x8 x9) fun (r24 : ((Unit × (Int × (Int × (Int × (Unit × Unit))))) × (Int × (Bool × Unit)))) (m25 : (Sl × (Sl × (Sl × (Sl × Unit))))) =>
    oite (x0 == x1)
      (laws_FnPlaces_j4 x1 x2 x3 x0 (77 : Int) r24.2.1 r24.2.2.1 x4 x5 x6 x7 m25.1 m25.2.1)
      (laws_FnPlaces_j4 x1 x2 x3 x0 (0 : Int) r24.2.1 r24.2.2.1 x4 x5 x6 x7 m25.1 m25.2.1))
    (laws_FnPlaces_j6 x7.2.2.1 x7 x4 x5 x6 x8 x9) := (evI_eq ..).trans (by kernel_rfl)
theorem laws_FnPlaces_j4_eq (x0 : Int) (x1 : Int) (x2 : Int) (x3 : Int) (x4 : Int) (x5 : Int) (x6 : Bool) (x7 : Int) (x8 : Int) (x9 : Int) (x10 : T_Heap) (x11 : Sl) (x12 : Sl) : laws_FnPlaces_j4 x0 x1 x2 x3 x4 x5 x6 x7 x8 x9 x10 x11 x12 =
  oite (!x6)
    (laws_FnPlaces_j5 x0 x1 x2 x3 true x7 x8 x9 x10 x11 x12)
    (laws_FnPlaces_j5 x0 x1 x2 x3 (!(x5 == x4)) x7 x8 x9 x10 x11 x12) := (evI_eq ..).trans (by kernel_rfl)
-- a loop's head
theorem laws_FnPlaces_j6_eq (x0 : Int) (x1 : T_Heap) (x2 : Int) (x3 : Int) (x4 : Int) (x5 : Sl) (x6 : Sl) : laws_FnPlaces_j6 x0 x1 x2 x3 x4 x5 x6 =
  oite (decide (x0 < x1.2.2.2.1))
    (oguard (decide (((0 : Int) ≤ x0) ∧ (x0 < ((x5.1 : Nat) : Int)))) (
    ocells [(.int .i64)] (List.take 1 (List.drop 0 (List.getD x5.2 (Int.toNat x0) []))) fun (t26 : (Int × Unit)) =>
    oat [(.int .i64)] x1.1.1 x1.1.2 x0 fun (t27 : (Int × Unit)) =>
    oite (!(t26.1 == t27.1))
      (some ((.d (.bool false)), []))
      (laws_FnPlaces_j6 (w64 (x0 + (1 : Int))) x1 x2 x3 x4 x5 x6)))
    (some ((.d (.bool true)), [])) := (evI_eq ..).trans (by kernel_rfl)
theorem laws_FnPlaces_j5_eq (x0 : Int) (x1 : Int) (x2 : Int) (x3 : Int) (x4 : Bool) (x5 : Int) (x6 : Int) (x7 : Int) (x8 : T_Heap) (x9 : Sl) (x10 : Sl) : laws_FnPlaces_j5 x0 x1 x2 x3 x4 x5 x6 x7 x8 x9 x10 =
  oite x4
    (some ((.d (.bool false)), []))
    (laws_FnPlaces_j3 (w64 (x3 + (1 : Int))) x0 x1 x2 x5 x6 x7 x8 x9 x10) := (evI_eq ..).trans (by kernel_rfl)
theorem spec_DrawAlloc_eq (x0 : Sl) : spec_DrawAlloc x0 =
  ocall (.m (.one (.ptr 0 0))) [(.box sh_l1Cur)] (spec_l1New x0) fun (r0 : Unit) (m1 : (T_l1Cur × Unit)) =>
  ocall (.m (.agg sh_Heap)) [(.box sh_l1Cur)] (spec_l2heap m1.1) fun (r2 : T_Heap) (m3 : (T_l1Cur × Unit)) =>
  ocall (.m (.one (.int .i64))) [(.box sh_l1Cur)] (spec_l1PickInt (10, (((D.int .i64 (0 : Int)) :: []) :: (((D.int .i64 (1 : Int)) :: []) :: (((D.int .i64 (2 : Int)) :: []) :: (((D.int .i64 (3 : Int)) :: []) :: (((D.int .i64 (64 : Int)) :: []) :: (((D.int .i64 (65 : Int)) :: []) :: (((D.int .i64 (w64 ((w64 (r2.2.2.1 + r2.2.1)) - r2.2.2.2.1))) :: []) :: (((D.int .i64 (w64 ((w64 ((w64 (r2.2.2.1 + r2.2.1)) - r2.2.2.2.1)) + (1 : Int)))) :: []) :: (((D.int .i64 (-1 : Int)) :: []) :: (((D.int .i64 (4611686018427387904 : Int)) :: []) :: []))))))))))) m3.1) fun (r4 : Int) (m5 : (T_l1Cur × Unit)) =>
  osame (α := List V) [(.agg [(.d (.sl false 1 r2.1.1 r2.1.2)), (.d (.int .i64 r2.2.1)), (.d (.int .i64 r2.2.2.1)), (.d (.int .i64 r2.2.2.2.1)), (.d (.sl false 3 r2.2.2.2.2.1.1 r2.2.2.2.2.1.2))])] [(.agg [(.d (.sl false 1 r2.1.1 r2.1.2)), (.d (.int .i64 r2.2.1)), (.d (.int .i64 r2.2.2.1)), (.d (.int .i64 r2.2.2.2.1)), (.d (.sl false 3 r2.2.2.2.2.1.1 r2.2.2.2.2.1.2))])] (
  some ((.tup [(.agg (LS.encs sh_Heap r2)), (.d (.int .i64 r4))]), [])) := (evF_eq ..).trans (by kernel_rfl)
theorem laws_at_eq (x0 : Sl) (x1 : Int) : laws_at x0 x1 =
  oite (((x0.1 : Nat) : Int) == (0 : Int))
    (some ((.d (.int .i64 (0 : Int))), []))
    (oguard (decide (((x0.1 : Nat) : Int) ≠ (0 : Int))) (
    oat [(.int .u8)] x0.1 x0.2 (Int.tmod x1 ((x0.1 : Nat) : Int)) fun (t0 : (Int × Unit)) =>
    some ((.d (.int .i64 (w64 t0.1))), []))) := (evF_eq ..).trans (by kernel_rfl)
theorem impl_Alloc_eq (x0 : T_Heap) (x1 : Int) : impl_Alloc x0 x1 =
  ocall (.m (.one .bool)) [] (impl_HeapOk_v2 x0) fun (r0 : Bool) (m1 : Unit) =>
  oite (!r0)
    (some ((.tup [(.agg [(.own 0), (.d (.int .i64 (0 : Int))), (.d (.int .i64 (0 : Int))), (.d (.int .i64 (0 : Int))), (.own 1)]), (.d (.int .i64 (0 : Int))), (.kb false)]), [(.row 1 0 false false []), (.row 3 0 false false [])]))
    (ocall (.m (.agg [(.own 0), (.int .i64), (.int .i64), (.int .i64), (.own 1)])) [(.row 1 false true), (.row 3 false true)] (impl_cloneHeap x0) fun (r2 : (Unit × (Int × (Int × (Int × (Unit × Unit)))))) (m3 : (Sl × (Sl × Unit))) =>
    ocall (.tup [(.one (.int .i64)), (.one .bool)]) [(.box [(.own 1), (.int .i64), (.int .i64), (.int .i64), (.own 2)]), (.row 1 false false), (.row 3 false false)] (impl_Heap_alloc x1 r2.2.1 r2.2.2.1 r2.2.2.2.1 m3.1 m3.2.1) fun (r4 : (Int × (Bool × Unit))) (m5 : ((Unit × (Int × (Int × (Int × (Unit × Unit))))) × (Sl × (Sl × Unit)))) =>
    some ((.tup [(.agg [(.own 0), (.d (.int .i64 m5.1.2.1)), (.d (.int .i64 m5.1.2.2.1)), (.d (.int .i64 m5.1.2.2.2.1)), (.own 1)]), (.d (.int .i64 r4.1)), (.d (.bool r4.2.1))]), [(.row 1 m5.2.1.1 false true m5.2.1.2), (.row 3 m5.2.2.1.1 false true m5.2.2.1.2)])) := (evF_eq ..).trans (by kernel_rfl)
noncomputable def spec_HeapOk_j2 (x0 : Bool) (x1 : T_Heap) : Res := (fun (p : Env × Mem) => evI cx 32 0 2 p.1 p.2) ([(1, (.ptr 0 0)), (25, (.d (.bool x0)))], [(.box (LS.encs sh_Heap x1))])
noncomputable def spec_HeapOk_j1 (x0 : T_Heap) : Res := (fun (p : Env × Mem) => evI cx 32 0 1 p.1 p.2) ([(1, (.ptr 0 0))], [(.box (LS.encs sh_Heap x0))])
theorem spec_HeapOk_eq (x0 : T_Heap) : spec_HeapOk x0 =
  oite (decide (x0.2.1 < (16 : Int)))
    (spec_HeapOk_j2 true x0)
    (oite (decide (x0.2.1 > (4096 : Int)))
      (spec_HeapOk_j2 true x0)
      (oite (!(((x0.1.1 : Nat) : Int) == (w64 ((2 : Int) * x0.2.1))))
        (spec_HeapOk_j2 true x0)
        (spec_HeapOk_j2 (decide (((x0.2.2.2.2.1.1 : Nat) : Int) > (4000 : Int))) x0))) := (evF_eq ..).trans (by kernel_rfl)
theorem spec_HeapOk_j2_eq (x0 : Bool) (x1 : T_Heap) : spec_HeapOk_j2 x0 x1 =
  oite x0
    (some ((.d (.bool false)), []))
    (spec_HeapOk_j1 x1) := (evI_eq ..).trans (by kernel_rfl)
theorem spec_HeapOk_j1_eq (x0 : T_Heap) : spec_HeapOk_j1 x0 =
  oite (x0.2.2.1 == (0 : Int))
    (oite (decide (x0.2.2.2.1 ≥ x0.2.2.1))
      (some ((.d (.bool (decide (x0.2.2.2.1 ≤ (w64 (x0.2.2.1 + x0.2.1)))))), []))
      (some ((.d (.bool false)), [])))
    (oite (x0.2.2.1 == x0.2.1)
      (oite (decide (x0.2.2.2.1 ≥ x0.2.2.1))
        (some ((.d (.bool (decide (x0.2.2.2.1 ≤ (w64 (x0.2.2.1 + x0.2.1)))))), []))
        (some ((.d (.bool false)), [])))
      (some ((.d (.bool false)), []))) := (evI_eq ..).trans (by kernel_rfl)
theorem spec_HeapRoom_eq (x0 : T_Heap) : spec_HeapRoom x0 =
  ocall (.m (.one .bool)) [] (spec_HeapOk x0) fun (r0 : Bool) (m1 : Unit) =>
  oite (!r0)
    (some ((.d (.int .i64 (0 : Int))), []))
    (some ((.d (.int .i64 (w64 ((w64 (x0.2.2.1 + x0.2.1)) - x0.2.2.2.1)))), [])) := (evF_eq ..).trans (by kernel_rfl)
theorem impl_HeapRoom_eq (x0 : Int) (x1 : Int) (x2 : Int) (x3 : Sl) (x4 : Sl) : impl_HeapRoom x0 x1 x2 x3 x4 =
  ocall (.m (.one .bool)) [(.row 1 false false), (.row 3 false false)] (impl_HeapOk x0 x1 x2 x3 x4) fun (r0 : Bool) (m1 : (Sl × (Sl × Unit))) =>
  oite (!r0)
    (some ((.d (.int .i64 (0 : Int))), [(.row 1 m1.1.1 false false m1.1.2), (.row 3 m1.2.1.1 false false m1.2.1.2)]))
    (ocall (.m (.one (.int .i64))) [(.box [(.own 1), (.int .i64), (.int .i64), (.int .i64), (.own 2)]), (.row 1 false false), (.row 3 false false)] (impl_Heap_room x0 x1 x2 m1.1 m1.2.1) fun (r2 : Int) (m3 : ((Unit × (Int × (Int × (Int × (Unit × Unit))))) × (Sl × (Sl × Unit)))) =>
    some ((.d (.int .i64 r2)), [(.row 1 m3.2.1.1 false false m3.2.1.2), (.row 3 m3.2.2.1.1 false false m3.2.2.1.2)])) := (evF_eq ..).trans (by kernel_rfl)
noncomputable def impl_HeapOk_j1 (x0 : Bool) (x1 : Sl) (x2 : Sl) (x3 : Int) (x4 : Int) (x5 : Int) : Res := (fun (p : Env × Mem) => evI cx 35 2 1 p.1 p.2) ([(1, (.ptr 2 0)), (3, (.d (.bool x0)))], [(.row 1 x1.1 false false x1.2), (.row 3 x2.1 false false x2.2), (.box [(.own 0), (.d (.int .i64 x3)), (.d (.int .i64 x4)), (.d (.int .i64 x5)), (.own 1)])])
theorem impl_HeapOk_eq (x0 : Int) (x1 : Int) (x2 : Int) (x3 : Sl) (x4 : Sl) : impl_HeapOk x0 x1 x2 x3 x4 =
  ocall (.m (.one .bool)) [] (impl_within x0 (16 : Int) (4096 : Int)) fun (r0 : Bool) (m1 : Unit) =>
  oite r0
    (oite (((x3.1 : Nat) : Int) == (w64 ((2 : Int) * x0)))
      (impl_HeapOk_j1 (decide (((x4.1 : Nat) : Int) ≤ (4000 : Int))) x3 x4 x0 x1 x2)
      (impl_HeapOk_j1 false x3 x4 x0 x1 x2))
    (impl_HeapOk_j1 false x3 x4 x0 x1 x2) := (evF_eq ..).trans (by kernel_rfl)
theorem impl_HeapOk_j1_eq (x0 : Bool) (x1 : Sl) (x2 : Sl) (x3 : Int) (x4 : Int) (x5 : Int) : impl_HeapOk_j1 x0 x1 x2 x3 x4 x5 =
  oite x0
    (oite (x4 == (0 : Int))
      (ocall (.m (.one .bool)) [] (impl_within x5 x4 (w64 (x4 + x3))) fun (r2 : Bool) (m3 : Unit) =>
      some ((.d (.bool r2)), [(.row 1 x1.1 false false x1.2), (.row 3 x2.1 false false x2.2)]))
      (oite (x4 == x3)
        (ocall (.m (.one .bool)) [] (impl_within x5 x4 (w64 (x4 + x3))) fun (r4 : Bool) (m5 : Unit) =>
        some ((.d (.bool r4)), [(.row 1 x1.1 false false x1.2), (.row 3 x2.1 false false x2.2)]))
        (some ((.d (.bool false)), [(.row 1 x1.1 false false x1.2), (.row 3 x2.1 false false x2.2)]))))
    (some ((.d (.bool false)), [(.row 1 x1.1 false false x1.2), (.row 3 x2.1 false false x2.2)])) := (evI_eq ..).trans (by kernel_rfl)
theorem impl_Store_eq (x0 : Int) (x1 : Int) (x2 : Int) (x3 : Int) (x4 : Int) (x5 : Int) (x6 : Sl) (x7 : Sl) : impl_Store x0 x1 x2 x3 x4 x5 x6 x7 =
  ocall (.m (.one .bool)) [(.row 1 false false), (.row 3 false false)] (impl_HeapOk x0 x1 x2 x6 x7) fun (r0 : Bool) (m1 : (Sl × (Sl × Unit))) =>
  oite (!r0)
    (some ((.tup [(.agg [(.own 2), (.d (.int .i64 (0 : Int))), (.d (.int .i64 (0 : Int))), (.d (.int .i64 (0 : Int))), (.own 3)]), (.kb false)]), [(.row 1 m1.1.1 false false m1.1.2), (.row 3 m1.2.1.1 false false m1.2.1.2), (.row 1 0 false false []), (.row 3 0 false false [])]))
    (ocall (.m (.agg [(.own (0 + (List.length ((Ent.row 1 m1.1.1 false false m1.1.2) :: ((Ent.row 3 m1.2.1.1 false false m1.2.1.2) :: []))))), (.int .i64), (.int .i64), (.int .i64), (.own (1 + (List.length ((Ent.row 1 m1.1.1 false false m1.1.2) :: ((Ent.row 3 m1.2.1.1 false false m1.2.1.2) :: [])))))])) [(.row 1 false false), (.row 3 false false), (.row 1 false true), (.row 3 false true)] (impl_cloneHeap_v2 x0 x1 x2 m1.1 m1.2.1) fun (r2 : (Unit × (Int × (Int × (Int × (Unit × Unit)))))) (m3 : (Sl × (Sl × (Sl × (Sl × Unit))))) =>
    ocall (.m (.one .bool)) [(.box [(.own 1), (.int .i64), (.int .i64), (.int .i64), (.own 2)]), (.row 1 false false), (.row 3 false true)] (impl_Heap_store x3 x4 x5 r2.2.1 r2.2.2.1 r2.2.2.2.1 m3.2.2.1 m3.2.2.2.1) fun (r4 : Bool) (m5 : ((Unit × (Int × (Int × (Int × (Unit × Unit))))) × (Sl × (Sl × Unit)))) =>
    some ((.tup [(.agg [(.own 2), (.d (.int .i64 m5.1.2.1)), (.d (.int .i64 m5.1.2.2.1)), (.d (.int .i64 m5.1.2.2.2.1)), (.own 3)]), (.d (.bool r4))]), [(.row 1 m3.1.1 false false m3.1.2), (.row 3 m3.2.1.1 false false m3.2.1.2), (.row 1 m5.2.1.1 false true m5.2.1.2), (.row 3 m5.2.2.1.1 false true m5.2.2.1.2)])) := (evF_eq ..).trans (by kernel_rfl)
theorem impl_Load_eq (x0 : Int) (x1 : Int) (x2 : Int) (x3 : Int) (x4 : Int) (x5 : Sl) (x6 : Sl) : impl_Load x0 x1 x2 x3 x4 x5 x6 =
  ocall (.m (.one .bool)) [(.row 1 false false), (.row 3 false false)] (impl_HeapOk x0 x1 x2 x5 x6) fun (r0 : Bool) (m1 : (Sl × (Sl × Unit))) =>
  oite (!r0)
    (some ((.tup [(.agg [(.own 2), (.d (.int .i64 (0 : Int))), (.d (.int .i64 (0 : Int))), (.d (.int .i64 (0 : Int))), (.own 3)]), (.d (.int .i64 (0 : Int))), (.kb false)]), [(.row 1 m1.1.1 false false m1.1.2), (.row 3 m1.2.1.1 false false m1.2.1.2), (.row 1 0 false false []), (.row 3 0 false false [])]))
    (ocall (.m (.agg [(.own (0 + (List.length ((Ent.row 1 m1.1.1 false false m1.1.2) :: ((Ent.row 3 m1.2.1.1 false false m1.2.1.2) :: []))))), (.int .i64), (.int .i64), (.int .i64), (.own (1 + (List.length ((Ent.row 1 m1.1.1 false false m1.1.2) :: ((Ent.row 3 m1.2.1.1 false false m1.2.1.2) :: [])))))])) [(.row 1 false false), (.row 3 false false), (.row 1 false true), (.row 3 false true)] (impl_cloneHeap_v2 x0 x1 x2 m1.1 m1.2.1) fun (r2 : (Unit × (Int × (Int × (Int × (Unit × Unit)))))) (m3 : (Sl × (Sl × (Sl × (Sl × Unit))))) =>
    ocall (.tup [(.one (.int .i64)), (.one .bool)]) [(.box [(.own 1), (.int .i64), (.int .i64), (.int .i64), (.own 2)]), (.row 1 false false), (.row 3 false true)] (impl_Heap_load x3 x4 r2.2.1 r2.2.2.1 r2.2.2.2.1 m3.2.2.1 m3.2.2.2.1) fun (r4 : (Int × (Bool × Unit))) (m5 : ((Unit × (Int × (Int × (Int × (Unit × Unit))))) × (Sl × (Sl × Unit)))) =>
    some ((.tup [(.agg [(.own 2), (.d (.int .i64 m5.1.2.1)), (.d (.int .i64 m5.1.2.2.1)), (.d (.int .i64 m5.1.2.2.2.1)), (.own 3)]), (.d (.int .i64 r4.1)), (.d (.bool r4.2.1))]), [(.row 1 m3.1.1 false false m3.1.2), (.row 3 m3.2.1.1 false false m3.2.1.2), (.row 1 m5.2.1.1 false true m5.2.1.2), (.row 3 m5.2.2.1.1 false true m5.2.2.1.2)])) := (evF_eq ..).trans (by kernel_rfl)
noncomputable def spec_l1New_j1 (x0 : Int) (x1 : Sl) (x2 : Int) : Res := (fun (p : Env × Mem) => evI cx 95 0 1 p.1 p.2) ([(4, (.d (.int .i64 x0))), (0, (.d (.sl false 1 x1.1 x1.2))), (3, (.d (.int .i64 x2)))], [])
noncomputable def spec_l1New_j3 (x0 : Sl) (x1 : Int) (x2 : Int) (x3 : Bool) : Res := (fun (p : Env × Mem) => evI cx 95 0 3 p.1 p.2) ([(0, (.d (.sl false 1 x0.1 x0.2))), (4, (.d (.int .i64 x1))), (3, (.d (.int .i64 x2))), (15, (.d (.bool x3)))], [])
noncomputable def spec_l1New_j2 (x0 : Sl) (x1 : Int) (x2 : Int) : Res := (fun (p : Env × Mem) => evI cx 95 0 2 p.1 p.2) ([(0, (.d (.sl false 1 x0.1 x0.2))), (4, (.d (.int .i64 x1))), (3, (.d (.int .i64 x2)))], [])
theorem spec_l1New_eq (x0 : Sl) : spec_l1New x0 =
  spec_l1New_j1 (0 : Int) x0 (w64 ((29393 : Int) + ((x0.1 : Nat) : Int))) := (evF_eq ..).trans (by kernel_rfl)
-- a loop's head
theorem spec_l1New_j1_eq (x0 : Int) (x1 : Sl) (x2 : Int) : spec_l1New_j1 x0 x1 x2 =
  oite (decide (x0 < ((x1.1 : Nat) : Int)))
    (spec_l1New_j3 x1 x0 x2 (decide (x0 < (4000 : Int))))
    (spec_l1New_j3 x1 x0 x2 false) := (evI_eq ..).trans (by kernel_rfl)
theorem spec_l1New_j3_eq (x0 : Sl) (x1 : Int) (x2 : Int) (x3 : Bool) : spec_l1New_j3 x0 x1 x2 x3 =
  oite x3
    (spec_l1New_j2 x0 x1 x2)
    (some ((.ptr 0 0), [(.box (LS.encs sh_l1Cur (x0, (0 : Int), x2, ())))])) := (evI_eq ..).trans (by kernel_rfl)
theorem spec_l1New_j2_eq (x0 : Sl) (x1 : Int) (x2 : Int) : spec_l1New_j2 x0 x1 x2 =
  oat [(.int .u8)] x0.1 x0.2 x1 fun (t0 : (Int × Unit)) =>
  spec_l1New_j1 (w64 (x1 + (1 : Int))) x0 (w64 (((BitVec.toNat ((BitVec.ofInt 64 (w64 ((w64 ((w64 (x2 * (131 : Int))) + (w64 t0.1))) + (7 : Int)))) &&& (BitVec.ofInt 64 (1073741823 : Int)))) : Nat) : Int)) := (evI_eq ..).trans (by kernel_rfl)
noncomputable def spec_l2heap_j1 (x0 : Int) (x1 : Int) (x2 : T_l1Cur) (x3 : Int) (x4 : Int) (x5 : Int) (x6 : Int) (x7 : Int) (x8 : Int) (x9 : Sl) (x10 : Sl) (x11 : Sl) (x12 : Sl) : Res := (fun (p : Env × Mem) => evI cx 96 1 1 p.1 p.2) ([(6, (.d (.int .i64 x0))), (3, (.ptr 1 0)), (0, (.ptr 0 0)), (2, (.ptr 2 0)), (5, (.d (.int .i64 x1)))], [(.box (LS.encs sh_l1Cur x2)), (.box [(.own 3), (.d (.int .i64 x3)), (.d (.int .i64 x4)), (.d (.int .i64 x5)), (.own 4)]), (.box [(.own 5), (.d (.int .i64 x6)), (.d (.int .i64 x7)), (.d (.int .i64 x8)), (.own 6)]), (.row 1 x9.1 false true x9.2), (.row 3 x10.1 false true x10.2), (.row 1 x11.1 false false x11.2), (.row 3 x12.1 false false x12.2)])
noncomputable def spec_l2heap_j2 (x0 : T_l1Cur) (x1 : Int) (x2 : Int) (x3 : Int) (x4 : Int) (x5 : Int) (x6 : Int) (x7 : Sl) (x8 : Sl) (x9 : Sl) (x10 : Sl) : Res := (fun (p : Env × Mem) => evI cx 96 1 2 p.1 p.2) ([(2, (.ptr 1 0)), (3, (.ptr 2 0)), (0, (.ptr 0 0))], [(.box (LS.encs sh_l1Cur x0)), (.box [(.own 3), (.d (.int .i64 x1)), (.d (.int .i64 x2)), (.d (.int .i64 x3)), (.own 4)]), (.box [(.own 5), (.d (.int .i64 x4)), (.d (.int .i64 x5)), (.d (.int .i64 x6)), (.own 6)]), (.row 1 x7.1 false false x7.2), (.row 3 x8.1 false false x8.2), (.row 1 x9.1 false true x9.2), (.row 3 x10.1 false true x10.2)])
noncomputable def spec_l2heap_j3 (x0 : T_l1Cur) (x1 : Int) (x2 : Int) (x3 : Int) (x4 : Int) (x5 : Int) (x6 : Int) (x7 : Sl) (x8 : Sl) (x9 : Sl) (x10 : Sl) : Res := (fun (p : Env × Mem) => evI cx 96 1 3 p.1 p.2) ([(2, (.ptr 1 0)), (3, (.ptr 2 0))], [(.box (LS.encs sh_l1Cur x0)), (.box [(.own 3), (.d (.int .i64 x1)), (.d (.int .i64 x2)), (.d (.int .i64 x3)), (.own 4)]), (.box [(.own 5), (.d (.int .i64 x4)), (.d (.int .i64 x5)), (.d (.int .i64 x6)), (.own 6)]), (.row 1 x7.1 false false x7.2), (.row 3 x8.1 false false x8.2), (.row 1 x9.1 false true x9.2), (.row 3 x10.1 false true x10.2)])
noncomputable def spec_l2heap_j3v1 (x0 : T_l1Cur) (x1 : Int) (x2 : Int) (x3 : Int) (x4 : Nat) (x5 : Nat) (x6 : Int) (x7 : Int) (x8 : Int) (x9 : Sl) (x10 : Sl) (x11 : Sl) (x12 : Sl) : Res := (fun (p : Env × Mem) => evI cx 96 1 3 p.1 p.2) ([(2, (.ptr 1 0)), (3, (.ptr 2 0))], [(.box (LS.encs sh_l1Cur x0)), (.box [(.own 3), (.d (.int .i64 x1)), (.d (.int .i64 x2)), (.d (.int .i64 x3)), (.own 4)]), (.box [(.ref 5 x4 x5), (.d (.int .i64 x6)), (.d (.int .i64 x7)), (.d (.int .i64 x8)), (.own 6)]), (.row 1 x9.1 false false x9.2), (.row 3 x10.1 false false x10.2), (.row 1 x11.1 false true x11.2), (.row 3 x12.1 false true x12.2)])
noncomputable def spec_l2heap_j3v2 (x0 : T_l1Cur) (x1 : Int) (x2 : Int) (x3 : Int) (x4 : Int) (x5 : Int) (x6 : Int) (x7 : Sl) (x8 : Sl) (x9 : Sl) (x10 : Sl) : Res := (fun (p : Env × Mem) => evI cx 96 1 3 p.1 p.2) ([(2, (.ptr 1 0)), (3, (.ptr 2 0))], [(.box (LS.encs sh_l1Cur x0)), (.box [(.own 3), (.d (.int .i64 x1)), (.d (.int .i64 x2)), (.d (.int .i64 x3)), (.own 4)]), (.box [(.own 5), (.d (.int .i64 x4)), (.d (.int .i64 x5)), (.d (.int .i64 x6)), (.own 6)]), (.row 1 x7.1 false false x7.2), (.row 3 x8.1 false false x8.2), (.row 1 x9.1 false true x9.2), (.row 3 x10.1 false false x10.2)])
noncomputable def spec_l2heap_j3v3 (x0 : T_l1Cur) (x1 : Int) (x2 : Int) (x3 : Int) (x4 : Int) (x5 : Int) (x6 : Int) (x7 : Sl) (x8 : Sl) (x9 : Sl) (x10 : Sl) : Res := (fun (p : Env × Mem) => evI cx 96 1 3 p.1 p.2) ([(2, (.ptr 1 0)), (3, (.ptr 2 0))], [(.box (LS.encs sh_l1Cur x0)), (.box [(.own 3), (.d (.int .i64 x1)), (.d (.int .i64 x2)), (.d (.int .i64 x3)), (.own 4)]), (.box [(.own 5), (.d (.int .i64 x4)), (.d (.int .i64 x5)), (.d (.int .i64 x6)), (.own 6)]), (.row 1 x7.1 false false x7.2), (.row 3 x8.1 false false x8.2), (.row 1 x9.1 false false x9.2), (.row 3 x10.1 false true x10.2)])
theorem spec_l2heap_eq (x0 : T_l1Cur) : spec_l2heap x0 =
  ocall (.m (.one (.int .i64))) [(.box sh_l1Cur)] (spec_l1Below (20 : Int) x0) fun (r0 : Int) (m1 : (T_l1Cur × Unit)) =>
  ocall (.tup [(.agg [(.own 0), (.int .i64), (.int .i64), (.int .i64), (.own 1)]), (.one .bool)]) [(.row 1 false true), (.row 3 false true)] (spec_HeapNew (w64 ((16 : Int) + r0))) fun (r2 : ((Unit × (Int × (Int × (Int × (Unit × Unit))))) × (Bool × Unit))) (m3 : (Sl × (Sl × Unit))) =>
  ocall (.m (.one (.int .i64))) [(.box sh_l1Cur)] (spec_l1Below (6 : Int) m1.1) fun (r4 : Int) (m5 : (T_l1Cur × Unit)) =>
  spec_l2heap_j1 (0 : Int) r4 m5.1 r2.1.2.1 r2.1.2.2.1 r2.1.2.2.2.1 (0 : Int) (0 : Int) (0 : Int) m3.1 m3.2.1 (0, []) (0, []) := (evF_eq ..).trans (by kernel_rfl)
-- a loop's head
theorem spec_l2heap_j1_eq (x0 : Int) (x1 : Int) (x2 : T_l1Cur) (x3 : Int) (x4 : Int) (x5 : Int) (x6 : Int) (x7 : Int) (x8 : Int) (x9 : Sl) (x10 : Sl) (x11 : Sl) (x12 : Sl) : spec_l2heap_j1 x0 x1 x2 x3 x4 x5 x6 x7 x8 x9 x10 x11 x12 =
  oite (decide (x0 < x1))
    (ocall (.m (.one (.int .i64))) [(.box sh_l1Cur)] (spec_l1Below (5 : Int) x2) fun (r6 : Int) (m7 : (T_l1Cur × Unit)) =>
    ocall (.tup [(.one (.int .i64)), (.one .bool)]) [(.box [(.own 1), (.int .i64), (.int .i64), (.int .i64), (.own 2)]), (.row 1 false false), (.row 3 false false)] (spec_l2alloc (w64 ((1 : Int) + r6)) x3 x4 x5 x9 x10) fun (r8 : (Int × (Bool × Unit))) (m9 : ((Unit × (Int × (Int × (Int × (Unit × Unit))))) × (Sl × (Sl × Unit)))) =>
    oite r8.2.1
      (ocall (.m (.one (.int .i64))) [(.box sh_l1Cur)] (spec_l1Below (3 : Int) m7.1) fun (r10 : Int) (m11 : (T_l1Cur × Unit)) =>
      ocall (.m (.one (.int .i64))) [(.box sh_l1Cur)] (spec_l1signed m11.1) fun (r12 : Int) (m13 : (T_l1Cur × Unit)) =>
      ocall (.m (.one .bool)) [(.box [(.own 1), (.int .i64), (.int .i64), (.int .i64), (.own 2)]), (.row 1 false false), (.row 3 false true)] (spec_l2store r8.1 r10 r12 m9.1.2.1 m9.1.2.2.1 m9.1.2.2.2.1 m9.2.1 m9.2.2.1) fun (r14 : Bool) (m15 : ((Unit × (Int × (Int × (Int × (Unit × Unit))))) × (Sl × (Sl × Unit)))) =>
      spec_l2heap_j1 (w64 (x0 + (1 : Int))) x1 m13.1 m15.1.2.1 m15.1.2.2.1 m15.1.2.2.2.1 x6 x7 x8 m15.2.1 m15.2.2.1 x11 x12)
      (spec_l2heap_j1 (w64 (x0 + (1 : Int))) x1 m7.1 m9.1.2.1 m9.1.2.2.1 m9.1.2.2.2.1 x6 x7 x8 m9.2.1 m9.2.2.1 x11 x12))
    (ocall (.m (.one .bool)) [(.box sh_l1Cur)] (spec_l1Once (4 : Int) x2) fun (r16 : Bool) (m17 : (T_l1Cur × Unit)) =>
    oite r16
      (ocall (.m (.one (.int .i64))) [(.box sh_l1Cur)] (spec_l1Below (w64 (x3 + (1 : Int))) m17.1) fun (r18 : Int) (m19 : (T_l1Cur × Unit)) =>
      osame (α := List V) [(.d (.int .i64 x3))] [(.d (.int .i64 x3))] (
      spec_l2heap_j2 m19.1 x6 x7 x8 x3 x3 (w64 (x3 + r18)) x11 x12 x9 x10))
      (spec_l2heap_j2 m17.1 x6 x7 x8 x3 x4 x5 x11 x12 x9 x10)) := (evI_eq ..).trans (by kernel_rfl)
theorem spec_l2heap_j2_eq (x0 : T_l1Cur) (x1 : Int) (x2 : Int) (x3 : Int) (x4 : Int) (x5 : Int) (x6 : Int) (x7 : Sl) (x8 : Sl) (x9 : Sl) (x10 : Sl) : spec_l2heap_j2 x0 x1 x2 x3 x4 x5 x6 x7 x8 x9 x10 =
  ocall (.m (.one .bool)) [(.box sh_l1Cur)] (spec_l1Once (12 : Int) x0) fun (r20 : Bool) (m21 : (T_l1Cur × Unit)) =>
  oite r20
    (ocall (.m (.one (.int .i64))) [(.box sh_l1Cur)] (spec_l1Below (7 : Int) m21.1) fun (r22 : Int) (m23 : (T_l1Cur × Unit)) =>
    oite (r22 == (0 : Int))
      (ocall (.m (.one (.int .i64))) [(.box sh_l1Cur)] (spec_l1PickInt (4, (((D.int .i64 (15 : Int)) :: []) :: (((D.int .i64 (4097 : Int)) :: []) :: (((D.int .i64 (-1 : Int)) :: []) :: (((D.int .i64 (w64 (x4 + (1 : Int)))) :: []) :: []))))) m23.1) fun (r24 : Int) (m25 : (T_l1Cur × Unit)) =>
      spec_l2heap_j3 m25.1 x1 x2 x3 r24 x5 x6 x7 x8 x9 x10)
      (oite (r22 == (1 : Int))
        (ocall (.m (.one (.int .i64))) [(.box sh_l1Cur)] (spec_l1PickInt (3, (((D.int .i64 (1 : Int)) :: []) :: (((D.int .i64 (-1 : Int)) :: []) :: (((D.int .i64 (w64 ((2 : Int) * x4))) :: []) :: [])))) m23.1) fun (r26 : Int) (m27 : (T_l1Cur × Unit)) =>
        spec_l2heap_j3 m27.1 x1 x2 x3 x4 r26 x6 x7 x8 x9 x10)
        (oite (r22 == (2 : Int))
          (ocall (.m (.one (.int .i64))) [(.box sh_l1Cur)] (spec_l1PickInt (3, (((D.int .i64 (-1 : Int)) :: []) :: (((D.int .i64 (w64 ((w64 ((2 : Int) * x4)) + (1 : Int)))) :: []) :: (((D.int .i64 (w64 (x4 + (1 : Int)))) :: []) :: [])))) m23.1) fun (r28 : Int) (m29 : (T_l1Cur × Unit)) =>
          spec_l2heap_j3 m29.1 x1 x2 x3 x4 x5 r28 x7 x8 x9 x10)
          (oite (r22 == (3 : Int))
            (oguard (decide (((0 : Int) ≤ (w64 (((x9.1 : Nat) : Int) - (1 : Int)))) ∧ ((w64 (((x9.1 : Nat) : Int) - (1 : Int))) ≤ ((x9.1 : Nat) : Int)))) (
            spec_l2heap_j3v1 m23.1 x1 x2 x3 0 (Int.toNat (w64 (((x9.1 : Nat) : Int) - (1 : Int)))) x4 x5 x6 x7 x8 x9 x10))
            (oite (r22 == (4 : Int))
              (oguard true (
              olet (List.replicate 4001 (vDs (LS.encs sh_Access ((0 : Int), (0 : Int), (0 : Int), ())))) fun (e30 : (List (List D))) =>
              spec_l2heap_j3v2 m23.1 x1 x2 x3 x4 x5 x6 x7 x8 x9 (4001, e30)))
              (oite (r22 == (5 : Int))
                (oguard true (
                olet (List.replicate 4000 (vDs (LS.encs sh_Access ((0 : Int), (0 : Int), (0 : Int), ())))) fun (e31 : (List (List D))) =>
                spec_l2heap_j3v2 m23.1 x1 x2 x3 x4 x5 x6 x7 x8 x9 (4000, e31)))
                (spec_l2heap_j3v3 m23.1 x1 x2 x3 x4 x5 x6 x7 x8 (0, []) x10)))))))
    (spec_l2heap_j3 m21.1 x1 x2 x3 x4 x5 x6 x7 x8 x9 x10) := (evI_eq ..).trans (by kernel_rfl)
theorem spec_l2heap_j3_eq (x0 : T_l1Cur) (x1 : Int) (x2 : Int) (x3 : Int) (x4 : Int) (x5 : Int) (x6 : Int) (x7 : Sl) (x8 : Sl) (x9 : Sl) (x10 : Sl) : spec_l2heap_j3 x0 x1 x2 x3 x4 x5 x6 x7 x8 x9 x10 =
  some ((.agg (LS.encs sh_Heap (x9, x4, x5, x6, x10, ()))), [(.box (LS.encs sh_l1Cur x0))]) := (evI_eq ..).trans (by kernel_rfl)
theorem spec_l2heap_j3v1_eq (x0 : T_l1Cur) (x1 : Int) (x2 : Int) (x3 : Int) (x4 : Nat) (x5 : Nat) (x6 : Int) (x7 : Int) (x8 : Int) (x9 : Sl) (x10 : Sl) (x11 : Sl) (x12 : Sl) : spec_l2heap_j3v1 x0 x1 x2 x3 x4 x5 x6 x7 x8 x9 x10 x11 x12 =
  some ((.agg (LS.encs sh_Heap ((x5, (List.take x5 (List.drop x4 x11.2))), x6, x7, x8, x12, ()))), [(.box (LS.encs sh_l1Cur x0))]) := (evI_eq ..).trans (by kernel_rfl)
theorem spec_l2heap_j3v2_eq (x0 : T_l1Cur) (x1 : Int) (x2 : Int) (x3 : Int) (x4 : Int) (x5 : Int) (x6 : Int) (x7 : Sl) (x8 : Sl) (x9 : Sl) (x10 : Sl) : spec_l2heap_j3v2 x0 x1 x2 x3 x4 x5 x6 x7 x8 x9 x10 =
  some ((.agg (LS.encs sh_Heap (x9, x4, x5, x6, x10, ()))), [(.box (LS.encs sh_l1Cur x0))]) := (evI_eq ..).trans (by kernel_rfl)
theorem spec_l2heap_j3v3_eq (x0 : T_l1Cur) (x1 : Int) (x2 : Int) (x3 : Int) (x4 : Int) (x5 : Int) (x6 : Int) (x7 : Sl) (x8 : Sl) (x9 : Sl) (x10 : Sl) : spec_l2heap_j3v3 x0 x1 x2 x3 x4 x5 x6 x7 x8 x9 x10 =
  some ((.agg (LS.encs sh_Heap (x9, x4, x5, x6, x10, ()))), [(.box (LS.encs sh_l1Cur x0))]) := (evI_eq ..).trans (by kernel_rfl)
theorem spec_l1PickInt_eq (x0 : Sl) (x1 : T_l1Cur) : spec_l1PickInt x0 x1 =
  ocall (.m (.one (.int .i64))) [(.box sh_l1Cur)] (spec_l1Below ((x0.1 : Nat) : Int) x1) fun (r0 : Int) (m1 : (T_l1Cur × Unit)) =>
  oat [(.int .i64)] x0.1 x0.2 r0 fun (t2 : (Int × Unit)) =>
  some ((.d (.int .i64 t2.1)), [(.box (LS.encs sh_l1Cur m1.1))]) := (evF_eq ..).trans (by kernel_rfl)
noncomputable def impl_HeapOk_v2_j1 (x0 : Bool) (x1 : T_Heap) : Res := (fun (p : Env × Mem) => evI cx 35 0 1 p.1 p.2) ([(1, (.ptr 0 0)), (3, (.d (.bool x0)))], [(.box (LS.encs sh_Heap x1))])
theorem impl_HeapOk_v2_eq (x0 : T_Heap) : impl_HeapOk_v2 x0 =
  ocall (.m (.one .bool)) [] (impl_within x0.2.1 (16 : Int) (4096 : Int)) fun (r0 : Bool) (m1 : Unit) =>
  oite r0
    (oite (((x0.1.1 : Nat) : Int) == (w64 ((2 : Int) * x0.2.1)))
      (impl_HeapOk_v2_j1 (decide (((x0.2.2.2.2.1.1 : Nat) : Int) ≤ (4000 : Int))) x0)
      (impl_HeapOk_v2_j1 false x0))
    (impl_HeapOk_v2_j1 false x0) := (evF_eq ..).trans (by kernel_rfl)
theorem impl_HeapOk_v2_j1_eq (x0 : Bool) (x1 : T_Heap) : impl_HeapOk_v2_j1 x0 x1 =
  oite x0
    (oite (x1.2.2.1 == (0 : Int))
      (ocall (.m (.one .bool)) [] (impl_within x1.2.2.2.1 x1.2.2.1 (w64 (x1.2.2.1 + x1.2.1))) fun (r2 : Bool) (m3 : Unit) =>
      some ((.d (.bool r2)), []))
      (oite (x1.2.2.1 == x1.2.1)
        (ocall (.m (.one .bool)) [] (impl_within x1.2.2.2.1 x1.2.2.1 (w64 (x1.2.2.1 + x1.2.1))) fun (r4 : Bool) (m5 : Unit) =>
        some ((.d (.bool r4)), []))
        (some ((.d (.bool false)), []))))
    (some ((.d (.bool false)), [])) := (evI_eq ..).trans (by kernel_rfl)
theorem impl_cloneHeap_eq (x0 : T_Heap) : impl_cloneHeap x0 =
  ocall (.m (.one (.own 0))) [(.row 1 false true)] (slices_Clone_int_int x0.1) fun (r0 : Unit) (m1 : (Sl × Unit)) =>
  ocall (.m (.one (.own 0))) [(.row 3 false true)] (slices_Clone_impl_Access_impl_Access x0.2.2.2.2.1) fun (r2 : Unit) (m3 : (Sl × Unit)) =>
  some ((.agg [(.own 0), (.d (.int .i64 x0.2.1)), (.d (.int .i64 x0.2.2.1)), (.d (.int .i64 x0.2.2.2.1)), (.own 1)]), [(.row 1 m1.1.1 false true m1.1.2), (.row 3 m3.1.1 false true m3.1.2)]) := (evF_eq ..).trans (by kernel_rfl)
noncomputable def impl_Heap_alloc_j2 (x0 : Int) (x1 : Bool) (x2 : Int) (x3 : Int) (x4 : Int) (x5 : Sl) (x6 : Sl) : Res := (fun (p : Env × Mem) => evI cx 84 3 2 p.1 p.2) ([(0, (.ptr 0 0)), (1, (.d (.int .i64 x0))), (15, (.d (.bool x1)))], [(.box [(.own 1), (.d (.int .i64 x2)), (.d (.int .i64 x3)), (.d (.int .i64 x4)), (.own 2)]), (.row 1 x5.1 false false x5.2), (.row 3 x6.1 false false x6.2)])
noncomputable def impl_Heap_alloc_j1 (x0 : Int) (x1 : Int) (x2 : Int) (x3 : Int) (x4 : Sl) (x5 : Sl) : Res := (fun (p : Env × Mem) => evI cx 84 3 1 p.1 p.2) ([(0, (.ptr 0 0)), (1, (.d (.int .i64 x0)))], [(.box [(.own 1), (.d (.int .i64 x1)), (.d (.int .i64 x2)), (.d (.int .i64 x3)), (.own 2)]), (.row 1 x4.1 false false x4.2), (.row 3 x5.1 false false x5.2)])
theorem impl_Heap_alloc_eq (x0 : Int) (x1 : Int) (x2 : Int) (x3 : Int) (x4 : Sl) (x5 : Sl) : impl_Heap_alloc x0 x1 x2 x3 x4 x5 =
  ocall (.m (.one .bool)) [] (impl_within x0 (1 : Int) (64 : Int)) fun (r0 : Bool) (m1 : Unit) =>
  oite (!r0)
    (impl_Heap_alloc_j2 x0 true x1 x2 x3 x4 x5)
    (ocall (.m (.one (.int .i64))) [(.box [(.own 1), (.int .i64), (.int .i64), (.int .i64), (.own 2)]), (.row 1 false false), (.row 3 false false)] (impl_Heap_room x1 x2 x3 x4 x5) fun (r2 : Int) (m3 : ((Unit × (Int × (Int × (Int × (Unit × Unit))))) × (Sl × (Sl × Unit)))) =>
    impl_Heap_alloc_j2 x0 (decide (x0 > r2)) m3.1.2.1 m3.1.2.2.1 m3.1.2.2.2.1 m3.2.1 m3.2.2.1) := (evF_eq ..).trans (by kernel_rfl)
theorem impl_Heap_alloc_j2_eq (x0 : Int) (x1 : Bool) (x2 : Int) (x3 : Int) (x4 : Int) (x5 : Sl) (x6 : Sl) : impl_Heap_alloc_j2 x0 x1 x2 x3 x4 x5 x6 =
  oite x1
    (some ((.tup [(.d (.int .i64 (0 : Int))), (.d (.bool false))]), [(.box [(.own 1), (.d (.int .i64 x2)), (.d (.int .i64 x3)), (.d (.int .i64 x4)), (.own 2)]), (.row 1 x5.1 false false x5.2), (.row 3 x6.1 false false x6.2)]))
    (impl_Heap_alloc_j1 x0 x2 x3 x4 x5 x6) := (evI_eq ..).trans (by kernel_rfl)
theorem impl_Heap_alloc_j1_eq (x0 : Int) (x1 : Int) (x2 : Int) (x3 : Int) (x4 : Sl) (x5 : Sl) : impl_Heap_alloc_j1 x0 x1 x2 x3 x4 x5 =
  oguard (decide (((0 : Int) ≤ x3) ∧ ((x3 ≤ (w64 (x3 + x0))) ∧ ((w64 (x3 + x0)) ≤ ((x4.1 : Nat) : Int))))) (
  olet ((List.take (Int.toNat x3) x4.2) ++ ((List.replicate ((Int.toNat (w64 (x3 + x0))) - (Int.toNat x3)) ((D.int .i64 (0 : Int)) :: [])) ++ (List.drop ((Int.toNat x3) + ((Int.toNat (w64 (x3 + x0))) - (Int.toNat x3))) x4.2))) fun (e4 : (List (List D))) =>
  some ((.tup [(.d (.int .i64 x3)), (.d (.bool true))]), [(.box [(.own 1), (.d (.int .i64 x1)), (.d (.int .i64 x2)), (.d (.int .i64 (w64 (x3 + x0)))), (.own 2)]), (.row 1 x4.1 false false e4), (.row 3 x5.1 false false x5.2)])) := (evI_eq ..).trans (by kernel_rfl)
theorem impl_Heap_room_eq (x0 : Int) (x1 : Int) (x2 : Int) (x3 : Sl) (x4 : Sl) : impl_Heap_room x0 x1 x2 x3 x4 =
  some ((.d (.int .i64 (w64 ((w64 (x1 + x0)) - x2)))), [(.box [(.own 1), (.d (.int .i64 x0)), (.d (.int .i64 x1)), (.d (.int .i64 x2)), (.own 2)]), (.row 1 x3.1 false false x3.2), (.row 3 x4.1 false false x4.2)]) := (evF_eq ..).trans (by kernel_rfl)
theorem impl_within_eq (x0 : Int) (x1 : Int) (x2 : Int) : impl_within x0 x1 x2 =
  oite (decide (x0 ≥ x1))
    (some ((.d (.bool (decide (x0 ≤ x2)))), []))
    (some ((.d (.bool false)), [])) := (evF_eq ..).trans (by kernel_rfl)
theorem impl_cloneHeap_v2_eq (x0 : Int) (x1 : Int) (x2 : Int) (x3 : Sl) (x4 : Sl) : impl_cloneHeap_v2 x0 x1 x2 x3 x4 =
  ocall (.m (.one (.own (0 + (List.length ((Ent.row 1 x3.1 false false x3.2) :: [])))))) [(.row 1 false false), (.row 1 false true)] (slices_Clone_int_int_o x3) fun (r0 : Unit) (m1 : (Sl × (Sl × Unit))) =>
  osame (α := Nat × List (List D)) (x3.1, x3.2) (m1.1.1, m1.1.2) (
  osame (α := Nat × List (List D)) (x4.1, x4.2) (x4.1, x4.2) (
  osame (α := List V) [(.own 0), (.d (.int .i64 x0)), (.d (.int .i64 x1)), (.d (.int .i64 x2)), (.own 1)] [(.own 0), (.d (.int .i64 x0)), (.d (.int .i64 x1)), (.d (.int .i64 x2)), (.own 1)] (
  osame (α := List V) [(.d (.sl true 1 0 [])), (.d (.int .i64 (0 : Int))), (.d (.int .i64 (0 : Int))), (.d (.int .i64 (0 : Int))), (.d (.sl true 3 0 []))] [(.d (.sl true 1 0 [])), (.d (.int .i64 (0 : Int))), (.d (.int .i64 (0 : Int))), (.d (.int .i64 (0 : Int))), (.d (.sl true 3 0 []))] (
  ocall (.m (.one (.own (0 + (List.length ((Ent.row 3 x4.1 false false x4.2) :: [])))))) [(.row 3 false false), (.row 3 false true)] (slices_Clone_impl_Access_impl_Access_o x4) fun (r2 : Unit) (m3 : (Sl × (Sl × Unit))) =>
  osame (α := Nat × List (List D)) (x3.1, x3.2) (x3.1, x3.2) (
  osame (α := Nat × List (List D)) (x4.1, x4.2) (m3.1.1, m3.1.2) (
  osame (α := List V) [(.own 0), (.d (.int .i64 x0)), (.d (.int .i64 x1)), (.d (.int .i64 x2)), (.own 1)] [(.own 0), (.d (.int .i64 x0)), (.d (.int .i64 x1)), (.d (.int .i64 x2)), (.own 1)] (
  osame (α := List V) [(.d (.sl true 1 0 [])), (.d (.int .i64 (0 : Int))), (.d (.int .i64 (0 : Int))), (.d (.int .i64 (0 : Int))), (.d (.sl true 3 0 []))] [(.d (.sl true 1 0 [])), (.d (.int .i64 (0 : Int))), (.d (.int .i64 (0 : Int))), (.d (.int .i64 (0 : Int))), (.d (.sl true 3 0 []))] (
  osame (α := Nat × List (List D)) (m1.2.1.1, m1.2.1.2) (m1.2.1.1, m1.2.1.2) (
  some ((.agg [(.own 2), (.d (.int .i64 x0)), (.d (.int .i64 x1)), (.d (.int .i64 x2)), (.own 3)]), [(.row 1 x3.1 false false x3.2), (.row 3 x4.1 false false x4.2), (.row 1 m1.2.1.1 false true m1.2.1.2), (.row 3 m3.2.1.1 false true m3.2.1.2)])))))))))) := (evF_eq ..).trans (by kernel_rfl)
theorem impl_Heap_store_eq (x0 : Int) (x1 : Int) (x2 : Int) (x3 : Int) (x4 : Int) (x5 : Int) (x6 : Sl) (x7 : Sl) : impl_Heap_store x0 x1 x2 x3 x4 x5 x6 x7 =
  ocall (.m (.one .bool)) [(.box [(.own 1), (.int .i64), (.int .i64), (.int .i64), (.own 2)]), (.row 1 false false), (.row 3 false true)] (impl_Heap_touch x0 x1 x3 x4 x5 x6 x7) fun (r0 : Bool) (m1 : ((Unit × (Int × (Int × (Int × (Unit × Unit))))) × (Sl × (Sl × Unit)))) =>
  oite (!r0)
    (some ((.d (.bool false)), [(.box [(.own 1), (.d (.int .i64 m1.1.2.1)), (.d (.int .i64 m1.1.2.2.1)), (.d (.int .i64 m1.1.2.2.2.1)), (.own 2)]), (.row 1 m1.2.1.1 false false m1.2.1.2), (.row 3 m1.2.2.1.1 false true m1.2.2.1.2)]))
    (oguard (decide (((0 : Int) ≤ (w64 (x0 + x1))) ∧ ((w64 (x0 + x1)) < ((m1.2.1.1 : Nat) : Int)))) (
    olet (List.set m1.2.1.2 (Int.toNat (w64 (x0 + x1))) (putD (List.getD m1.2.1.2 (Int.toNat (w64 (x0 + x1))) []) 0 [(D.int .i64 x2)])) fun (e2 : (List (List D))) =>
    some ((.d (.bool true)), [(.box [(.own 1), (.d (.int .i64 m1.1.2.1)), (.d (.int .i64 m1.1.2.2.1)), (.d (.int .i64 m1.1.2.2.2.1)), (.own 2)]), (.row 1 m1.2.1.1 false false e2), (.row 3 m1.2.2.1.1 false true m1.2.2.1.2)]))) := (evF_eq ..).trans (by kernel_rfl)
theorem impl_Heap_load_eq (x0 : Int) (x1 : Int) (x2 : Int) (x3 : Int) (x4 : Int) (x5 : Sl) (x6 : Sl) : impl_Heap_load x0 x1 x2 x3 x4 x5 x6 =
  ocall (.m (.one .bool)) [(.box [(.own 1), (.int .i64), (.int .i64), (.int .i64), (.own 2)]), (.row 1 false false), (.row 3 false true)] (impl_Heap_touch x0 x1 x2 x3 x4 x5 x6) fun (r0 : Bool) (m1 : ((Unit × (Int × (Int × (Int × (Unit × Unit))))) × (Sl × (Sl × Unit)))) =>
  oite (!r0)
    (some ((.tup [(.d (.int .i64 (0 : Int))), (.d (.bool false))]), [(.box [(.own 1), (.d (.int .i64 m1.1.2.1)), (.d (.int .i64 m1.1.2.2.1)), (.d (.int .i64 m1.1.2.2.2.1)), (.own 2)]), (.row 1 m1.2.1.1 false false m1.2.1.2), (.row 3 m1.2.2.1.1 false true m1.2.2.1.2)]))
    (oguard (decide (((0 : Int) ≤ (w64 (x0 + x1))) ∧ ((w64 (x0 + x1)) < ((m1.2.1.1 : Nat) : Int)))) (
    ocells [(.int .i64)] (List.take 1 (List.drop 0 (List.getD m1.2.1.2 (Int.toNat (w64 (x0 + x1))) []))) fun (t2 : (Int × Unit)) =>
    some ((.tup [(.d (.int .i64 t2.1)), (.d (.bool true))]), [(.box [(.own 1), (.d (.int .i64 m1.1.2.1)), (.d (.int .i64 m1.1.2.2.1)), (.d (.int .i64 m1.1.2.2.2.1)), (.own 2)]), (.row 1 m1.2.1.1 false false m1.2.1.2), (.row 3 m1.2.2.1.1 false true m1.2.2.1.2)]))) := (evF_eq ..).trans (by kernel_rfl)
theorem spec_l1Below_eq (x0 : Int) (x1 : T_l1Cur) : spec_l1Below x0 x1 =
  oite (decide (x0 ≤ (0 : Int)))
    (some ((.d (.int .i64 (0 : Int))), [(.box (LS.encs sh_l1Cur x1))]))
    (oite (decide (x0 ≤ (256 : Int)))
      (ocall (.m (.one (.int .i64))) [(.box sh_l1Cur)] (spec_l1Byte x1) fun (r0 : Int) (m1 : (T_l1Cur × Unit)) =>
      oguard (decide (x0 ≠ (0 : Int))) (
      some ((.d (.int .i64 (Int.tmod r0 x0))), [(.box (LS.encs sh_l1Cur m1.1))])))
      (ocall (.m (.one (.int .i64))) [(.box sh_l1Cur)] (spec_l1Byte x1) fun (r2 : Int) (m3 : (T_l1Cur × Unit)) =>
      ocall (.m (.one (.int .i64))) [(.box sh_l1Cur)] (spec_l1Byte m3.1) fun (r4 : Int) (m5 : (T_l1Cur × Unit)) =>
      ocall (.m (.one (.int .i64))) [(.box sh_l1Cur)] (spec_l1Byte m5.1) fun (r6 : Int) (m7 : (T_l1Cur × Unit)) =>
      ocall (.m (.one (.int .i64))) [(.box sh_l1Cur)] (spec_l1Byte m7.1) fun (r8 : Int) (m9 : (T_l1Cur × Unit)) =>
      oguard (decide (x0 ≠ (0 : Int))) (
      some ((.d (.int .i64 (Int.tmod (w64 ((w64 ((w64 ((w64 (r2 * (16777216 : Int))) + (w64 (r4 * (65536 : Int))))) + (w64 (r6 * (256 : Int))))) + r8)) x0))), [(.box (LS.encs sh_l1Cur m9.1))])))) := (evF_eq ..).trans (by kernel_rfl)
noncomputable def spec_HeapNew_j2 (x0 : Int) (x1 : Bool) (x2 : T_Heap) : Res := (fun (p : Env × Mem) => evI cx 143 0 2 p.1 p.2) ([(2, (.ptr 0 0)), (0, (.d (.int .i64 x0))), (9, (.d (.bool x1)))], [(.box (LS.encs sh_Heap x2))])
noncomputable def spec_HeapNew_j1 (x0 : Int) (x1 : T_Heap) : Res := (fun (p : Env × Mem) => evI cx 143 0 1 p.1 p.2) ([(2, (.ptr 0 0)), (0, (.d (.int .i64 x0)))], [(.box (LS.encs sh_Heap x1))])
theorem spec_HeapNew_eq (x0 : Int) : spec_HeapNew x0 =
  oite (decide (x0 < (16 : Int)))
    (spec_HeapNew_j2 x0 true ((0, []), (0 : Int), (0 : Int), (0 : Int), (0, []), ()))
    (spec_HeapNew_j2 x0 (decide (x0 > (4096 : Int))) ((0, []), (0 : Int), (0 : Int), (0 : Int), (0, []), ())) := (evF_eq ..).trans (by kernel_rfl)
theorem spec_HeapNew_j2_eq (x0 : Int) (x1 : Bool) (x2 : T_Heap) : spec_HeapNew_j2 x0 x1 x2 =
  oite x1
    (some ((.tup [(.agg [(.own 0), (.d (.int .i64 (0 : Int))), (.d (.int .i64 (0 : Int))), (.d (.int .i64 (0 : Int))), (.own 1)]), (.kb false)]), [(.row 1 0 false false []), (.row 3 0 false false [])]))
    (spec_HeapNew_j1 x0 x2) := (evI_eq ..).trans (by kernel_rfl)
theorem spec_HeapNew_j1_eq (x0 : Int) (x1 : T_Heap) : spec_HeapNew_j1 x0 x1 =
  oguard (decide (((0 : Int) ≤ (w64 ((2 : Int) * x0))) ∧ (((w64 ((2 : Int) * x0)) = (w64 ((2 : Int) * x0))) ∧ (((w64 ((2 : Int) * x0)) * (8 : Int)) ≤ (140737488351232 : Int))))) (
  olet (List.replicate (Int.toNat (w64 ((2 : Int) * x0))) ((D.int .i64 (0 : Int)) :: [])) fun (e0 : (List (List D))) =>
  some ((.tup [(.agg [(.own 0), (.d (.int .i64 x0)), (.d (.int .i64 (0 : Int))), (.d (.int .i64 (0 : Int))), (.own 1)]), (.kb true)]), [(.row 1 (Int.toNat (w64 ((2 : Int) * x0))) false false e0), (.row 3 0 false false [])])) := (evI_eq ..).trans (by kernel_rfl)
noncomputable def spec_l2alloc_j2 (x0 : Int) (x1 : Bool) (x2 : Int) (x3 : Int) (x4 : Int) (x5 : Sl) (x6 : Sl) : Res := (fun (p : Env × Mem) => evI cx 80 3 2 p.1 p.2) ([(0, (.ptr 0 0)), (1, (.d (.int .i64 x0))), (31, (.d (.bool x1)))], [(.box [(.own 1), (.d (.int .i64 x2)), (.d (.int .i64 x3)), (.d (.int .i64 x4)), (.own 2)]), (.row 1 x5.1 false false x5.2), (.row 3 x6.1 false false x6.2)])
noncomputable def spec_l2alloc_j1 (x0 : Int) (x1 : Int) (x2 : Int) (x3 : Int) (x4 : Sl) (x5 : Sl) : Res := (fun (p : Env × Mem) => evI cx 80 3 1 p.1 p.2) ([(0, (.ptr 0 0)), (1, (.d (.int .i64 x0)))], [(.box [(.own 1), (.d (.int .i64 x1)), (.d (.int .i64 x2)), (.d (.int .i64 x3)), (.own 2)]), (.row 1 x4.1 false false x4.2), (.row 3 x5.1 false false x5.2)])
noncomputable def spec_l2alloc_j3 (x0 : Int) (x1 : Int) (x2 : Int) (x3 : Int) (x4 : Int) (x5 : Int) (x6 : Sl) (x7 : Sl) : Res := (fun (p : Env × Mem) => evI cx 80 3 3 p.1 p.2) ([(7, (.d (.int .i64 x0))), (6, (.d (.int .i64 x1))), (0, (.ptr 0 0)), (1, (.d (.int .i64 x2)))], [(.box [(.own 1), (.d (.int .i64 x3)), (.d (.int .i64 x4)), (.d (.int .i64 x5)), (.own 2)]), (.row 1 x6.1 false false x6.2), (.row 3 x7.1 false false x7.2)])
theorem spec_l2alloc_eq (x0 : Int) (x1 : Int) (x2 : Int) (x3 : Int) (x4 : Sl) (x5 : Sl) : spec_l2alloc x0 x1 x2 x3 x4 x5 =
  oite (decide (x0 < (1 : Int)))
    (spec_l2alloc_j2 x0 true x1 x2 x3 x4 x5)
    (oite (decide (x0 > (64 : Int)))
      (spec_l2alloc_j2 x0 true x1 x2 x3 x4 x5)
      (spec_l2alloc_j2 x0 (decide (x0 > (w64 ((w64 (x2 + x1)) - x3)))) x1 x2 x3 x4 x5)) := (evF_eq ..).trans (by kernel_rfl)
theorem spec_l2alloc_j2_eq (x0 : Int) (x1 : Bool) (x2 : Int) (x3 : Int) (x4 : Int) (x5 : Sl) (x6 : Sl) : spec_l2alloc_j2 x0 x1 x2 x3 x4 x5 x6 =
  oite x1
    (some ((.tup [(.d (.int .i64 (0 : Int))), (.d (.bool false))]), [(.box [(.own 1), (.d (.int .i64 x2)), (.d (.int .i64 x3)), (.d (.int .i64 x4)), (.own 2)]), (.row 1 x5.1 false false x5.2), (.row 3 x6.1 false false x6.2)]))
    (spec_l2alloc_j1 x0 x2 x3 x4 x5 x6) := (evI_eq ..).trans (by kernel_rfl)
theorem spec_l2alloc_j1_eq (x0 : Int) (x1 : Int) (x2 : Int) (x3 : Int) (x4 : Sl) (x5 : Sl) : spec_l2alloc_j1 x0 x1 x2 x3 x4 x5 =
  spec_l2alloc_j3 (0 : Int) x3 x0 x1 x2 x3 x4 x5 := (evI_eq ..).trans (by kernel_rfl)
-- a loop's head
theorem spec_l2alloc_j3_eq (x0 : Int) (x1 : Int) (x2 : Int) (x3 : Int) (x4 : Int) (x5 : Int) (x6 : Sl) (x7 : Sl) : spec_l2alloc_j3 x0 x1 x2 x3 x4 x5 x6 x7 =
  oite (decide (x0 < x2))
    (oguard (decide (((0 : Int) ≤ (w64 (x1 + x0))) ∧ ((w64 (x1 + x0)) < ((x6.1 : Nat) : Int)))) (
    olet (List.set x6.2 (Int.toNat (w64 (x1 + x0))) (putD (List.getD x6.2 (Int.toNat (w64 (x1 + x0))) []) 0 [(D.int .i64 (0 : Int))])) fun (e0 : (List (List D))) =>
    spec_l2alloc_j3 (w64 (x0 + (1 : Int))) x1 x2 x3 x4 x5 (x6.1, e0) x7))
    (some ((.tup [(.d (.int .i64 x1)), (.d (.bool true))]), [(.box [(.own 1), (.d (.int .i64 x3)), (.d (.int .i64 x4)), (.d (.int .i64 (w64 (x1 + x2)))), (.own 2)]), (.row 1 x6.1 false false x6.2), (.row 3 x7.1 false false x7.2)])) := (evI_eq ..).trans (by kernel_rfl)
theorem spec_l1signed_eq (x0 : T_l1Cur) : spec_l1signed x0 =
  ocall (.m (.one (.int .i64))) [(.box sh_l1Cur)] (spec_l1Below (4 : Int) x0) fun (r0 : Int) (m1 : (T_l1Cur × Unit)) =>
  oite (r0 == (0 : Int))
    (ocall (.m (.one (.int .i64))) [(.box sh_l1Cur)] (spec_l1Below (9 : Int) m1.1) fun (r2 : Int) (m3 : (T_l1Cur × Unit)) =>
    some ((.d (.int .i64 (w64 (r2 - (4 : Int))))), [(.box (LS.encs sh_l1Cur m3.1))]))
    (oite (r0 == (1 : Int))
      (ocall (.m (.one (.int .i64))) [(.box sh_l1Cur)] (spec_l1PickInt (10, (((D.int .i64 (1073741823 : Int)) :: []) :: (((D.int .i64 (1073741824 : Int)) :: []) :: (((D.int .i64 (-1073741824 : Int)) :: []) :: (((D.int .i64 (-1073741825 : Int)) :: []) :: (((D.int .i64 (-9223372036854775808 : Int)) :: []) :: (((D.int .i64 (9223372036854775807 : Int)) :: []) :: (((D.int .i64 (4611686018427387904 : Int)) :: []) :: (((D.int .i64 (-4611686018427387904 : Int)) :: []) :: (((D.int .i64 (4611686018427387903 : Int)) :: []) :: (((D.int .i64 (-4611686018427387905 : Int)) :: []) :: []))))))))))) m1.1) fun (r4 : Int) (m5 : (T_l1Cur × Unit)) =>
      some ((.d (.int .i64 r4)), [(.box (LS.encs sh_l1Cur m5.1))]))
      (oite (r0 == (2 : Int))
        (ocall (.m (.one (.int .i64))) [(.box sh_l1Cur)] (spec_l1num m1.1) fun (r6 : Int) (m7 : (T_l1Cur × Unit)) =>
        some ((.d (.int .i64 r6)), [(.box (LS.encs sh_l1Cur m7.1))]))
        (ocall (.m (.one (.int .i64))) [(.box sh_l1Cur)] (spec_l1Below (1073741824 : Int) m1.1) fun (r8 : Int) (m9 : (T_l1Cur × Unit)) =>
        some ((.d (.int .i64 (w64 ((0 : Int) - r8)))), [(.box (LS.encs sh_l1Cur m9.1))])))) := (evF_eq ..).trans (by kernel_rfl)
theorem spec_l2store_eq (x0 : Int) (x1 : Int) (x2 : Int) (x3 : Int) (x4 : Int) (x5 : Int) (x6 : Sl) (x7 : Sl) : spec_l2store x0 x1 x2 x3 x4 x5 x6 x7 =
  ocall (.m (.one .bool)) [(.box [(.own 1), (.int .i64), (.int .i64), (.int .i64), (.own 2)]), (.row 1 false false), (.row 3 false false)] (spec_l2in x0 x1 x3 x4 x5 x6 x7) fun (r0 : Bool) (m1 : ((Unit × (Int × (Int × (Int × (Unit × Unit))))) × (Sl × (Sl × Unit)))) =>
  oite (!r0)
    (some ((.d (.bool false)), [(.box [(.own 1), (.d (.int .i64 m1.1.2.1)), (.d (.int .i64 m1.1.2.2.1)), (.d (.int .i64 m1.1.2.2.2.1)), (.own 2)]), (.row 1 m1.2.1.1 false false m1.2.1.2), (.row 3 m1.2.2.1.1 false false m1.2.2.1.2)]))
    (ocall (.tup []) [(.box [(.own 1), (.int .i64), (.int .i64), (.int .i64), (.own 2)]), (.row 1 false false), (.row 3 false true)] (spec_l2log (w64 (x0 + x1)) m1.1.2.1 m1.1.2.2.1 m1.1.2.2.2.1 m1.2.1 m1.2.2.1) fun (r2 : Unit) (m3 : ((Unit × (Int × (Int × (Int × (Unit × Unit))))) × (Sl × (Sl × Unit)))) =>
    oguard (decide (((0 : Int) ≤ (w64 (x0 + x1))) ∧ ((w64 (x0 + x1)) < ((m3.2.1.1 : Nat) : Int)))) (
    olet (List.set m3.2.1.2 (Int.toNat (w64 (x0 + x1))) (putD (List.getD m3.2.1.2 (Int.toNat (w64 (x0 + x1))) []) 0 [(D.int .i64 x2)])) fun (e4 : (List (List D))) =>
    some ((.d (.bool true)), [(.box [(.own 1), (.d (.int .i64 m3.1.2.1)), (.d (.int .i64 m3.1.2.2.1)), (.d (.int .i64 m3.1.2.2.2.1)), (.own 2)]), (.row 1 m3.2.1.1 false false e4), (.row 3 m3.2.2.1.1 false true m3.2.2.1.2)]))) := (evF_eq ..).trans (by kernel_rfl)
theorem spec_l1Once_eq (x0 : Int) (x1 : T_l1Cur) : spec_l1Once x0 x1 =
  ocall (.m (.one (.int .i64))) [(.box sh_l1Cur)] (spec_l1Below x0 x1) fun (r0 : Int) (m1 : (T_l1Cur × Unit)) =>
  some ((.d (.bool (r0 == (0 : Int)))), [(.box (LS.encs sh_l1Cur m1.1))]) := (evF_eq ..).trans (by kernel_rfl)
theorem slices_Clone_int_int_eq (x0 : Sl) : slices_Clone_int_int x0 =
  onil x0.1
    (some ((.own 0), [(.row 1 0 false false [])]))
    (oguard (decide ((x0.1 * 8) ≤ 140737488351232)) (
    some ((.own 0), [(.row 1 x0.1 false false x0.2)]))) := (evF_eq ..).trans (by kernel_rfl)
theorem slices_Clone_impl_Access_impl_Access_eq (x0 : Sl) : slices_Clone_impl_Access_impl_Access x0 =
  onil x0.1
    (some ((.own 0), [(.row 3 0 false false [])]))
    (oguard (decide ((x0.1 * 24) ≤ 140737488351232)) (
    some ((.own 0), [(.row 3 x0.1 false false x0.2)]))) := (evF_eq ..).trans (by kernel_rfl)
theorem slices_Clone_int_int_o_eq (x0 : Sl) : slices_Clone_int_int_o x0 =
  onil x0.1
    (some ((.own 1), [(.row 1 x0.1 false false x0.2), (.row 1 0 false false [])]))
    (oguard (decide ((x0.1 * 8) ≤ 140737488351232)) (
    some ((.own 1), [(.row 1 x0.1 false false x0.2), (.row 1 x0.1 false false x0.2)]))) := (evF_eq ..).trans (by kernel_rfl)
theorem slices_Clone_impl_Access_impl_Access_o_eq (x0 : Sl) : slices_Clone_impl_Access_impl_Access_o x0 =
  onil x0.1
    (some ((.own 1), [(.row 3 x0.1 false false x0.2), (.row 3 0 false false [])]))
    (oguard (decide ((x0.1 * 24) ≤ 140737488351232)) (
    some ((.own 1), [(.row 3 x0.1 false false x0.2), (.row 3 x0.1 false false x0.2)]))) := (evF_eq ..).trans (by kernel_rfl)
noncomputable def impl_Heap_touch_j2 (x0 : Int) (x1 : Int) (x2 : Bool) (x3 : Int) (x4 : Int) (x5 : Int) (x6 : Sl) (x7 : Sl) : Res := (fun (p : Env × Mem) => evI cx 142 3 2 p.1 p.2) ([(0, (.ptr 0 0)), (2, (.d (.int .i64 x0))), (1, (.d (.int .i64 x1))), (24, (.d (.bool x2)))], [(.box [(.own 1), (.d (.int .i64 x3)), (.d (.int .i64 x4)), (.d (.int .i64 x5)), (.own 2)]), (.row 1 x6.1 false false x6.2), (.row 3 x7.1 false false x7.2)])
noncomputable def impl_Heap_touch_j1 (x0 : Int) (x1 : Int) (x2 : Int) (x3 : Int) (x4 : Int) (x5 : Sl) (x6 : Sl) : Res := (fun (p : Env × Mem) => evI cx 142 3 1 p.1 p.2) ([(0, (.ptr 0 0)), (2, (.d (.int .i64 x0))), (1, (.d (.int .i64 x1)))], [(.box [(.own 1), (.d (.int .i64 x2)), (.d (.int .i64 x3)), (.d (.int .i64 x4)), (.own 2)]), (.row 1 x5.1 false false x5.2), (.row 3 x6.1 false false x6.2)])
noncomputable def impl_Heap_touch_j3 (x0 : Int) (x1 : Int) (x2 : Int) (x3 : Int) (x4 : Int) (x5 : Nat) (x6 : Nat) (x7 : Sl) (x8 : Sl) : Res := (fun (p : Env × Mem) => evI cx 142 3 3 p.1 p.2) ([(0, (.ptr 0 0)), (2, (.d (.int .i64 x0))), (1, (.d (.int .i64 x1)))], [(.box [(.own 1), (.d (.int .i64 x2)), (.d (.int .i64 x3)), (.d (.int .i64 x4)), (.ref 2 x5 x6)]), (.row 1 x7.1 false false x7.2), (.row 3 x8.1 false false x8.2)])
noncomputable def impl_Heap_touch_j3v1 (x0 : Int) (x1 : Int) (x2 : Int) (x3 : Int) (x4 : Int) (x5 : Sl) (x6 : Sl) : Res := (fun (p : Env × Mem) => evI cx 142 3 3 p.1 p.2) ([(0, (.ptr 0 0)), (2, (.d (.int .i64 x0))), (1, (.d (.int .i64 x1)))], [(.box [(.own 1), (.d (.int .i64 x2)), (.d (.int .i64 x3)), (.d (.int .i64 x4)), (.own 2)]), (.row 1 x5.1 false false x5.2), (.row 3 x6.1 false false x6.2)])
theorem impl_Heap_touch_eq (x0 : Int) (x1 : Int) (x2 : Int) (x3 : Int) (x4 : Int) (x5 : Sl) (x6 : Sl) : impl_Heap_touch x0 x1 x2 x3 x4 x5 x6 =
  ocall (.m (.one .bool)) [(.box [(.own 1), (.int .i64), (.int .i64), (.int .i64), (.own 2)]), (.row 1 false false), (.row 3 false false)] (impl_Heap_taken x0 x2 x3 x4 x5 x6) fun (r0 : Bool) (m1 : ((Unit × (Int × (Int × (Int × (Unit × Unit))))) × (Sl × (Sl × Unit)))) =>
  oite (!r0)
    (impl_Heap_touch_j2 x1 x0 true m1.1.2.1 m1.1.2.2.1 m1.1.2.2.2.1 m1.2.1 m1.2.2.1)
    (oite (decide (x1 < (0 : Int)))
      (impl_Heap_touch_j2 x1 x0 true m1.1.2.1 m1.1.2.2.1 m1.1.2.2.2.1 m1.2.1 m1.2.2.1)
      (impl_Heap_touch_j2 x1 x0 (decide (x1 ≥ (w64 (m1.1.2.2.2.1 - x0)))) m1.1.2.1 m1.1.2.2.1 m1.1.2.2.2.1 m1.2.1 m1.2.2.1)) := (evF_eq ..).trans (by kernel_rfl)
theorem impl_Heap_touch_j2_eq (x0 : Int) (x1 : Int) (x2 : Bool) (x3 : Int) (x4 : Int) (x5 : Int) (x6 : Sl) (x7 : Sl) : impl_Heap_touch_j2 x0 x1 x2 x3 x4 x5 x6 x7 =
  oite x2
    (some ((.d (.bool false)), [(.box [(.own 1), (.d (.int .i64 x3)), (.d (.int .i64 x4)), (.d (.int .i64 x5)), (.own 2)]), (.row 1 x6.1 false false x6.2), (.row 3 x7.1 false false x7.2)]))
    (impl_Heap_touch_j1 x0 x1 x3 x4 x5 x6 x7) := (evI_eq ..).trans (by kernel_rfl)
theorem impl_Heap_touch_j1_eq (x0 : Int) (x1 : Int) (x2 : Int) (x3 : Int) (x4 : Int) (x5 : Sl) (x6 : Sl) : impl_Heap_touch_j1 x0 x1 x2 x3 x4 x5 x6 =
  oite (((x6.1 : Nat) : Int) == (4000 : Int))
    (oguard (decide (((0 : Int) ≤ (1 : Int)) ∧ ((1 : Int) ≤ ((x6.1 : Nat) : Int)))) (
    impl_Heap_touch_j3 x0 x1 x2 x3 x4 1 (x6.1 - 1) x5 x6))
    (impl_Heap_touch_j3v1 x0 x1 x2 x3 x4 x5 x6) := (evI_eq ..).trans (by kernel_rfl)
theorem impl_Heap_touch_j3_eq (x0 : Int) (x1 : Int) (x2 : Int) (x3 : Int) (x4 : Int) (x5 : Nat) (x6 : Nat) (x7 : Sl) (x8 : Sl) : impl_Heap_touch_j3 x0 x1 x2 x3 x4 x5 x6 x7 x8 =
  oguard ((decide (((x6 + 1) * 24) ≤ 140737488351232)) && (true || (decide ((x5 + x6) = x8.1)))) (
  olet ((List.take x6 (List.drop x5 x8.2)) ++ ((vDs (LS.encs sh_Access ((w64 (x1 + x0)), x3, x4, ()))) :: [])) fun (e2 : (List (List D))) =>
  some ((.d (.bool true)), [(.box [(.own 1), (.d (.int .i64 x2)), (.d (.int .i64 x3)), (.d (.int .i64 x4)), (.own 2)]), (.row 1 x7.1 false false x7.2), (.row 3 (x6 + 1) false true e2)])) := (evI_eq ..).trans (by kernel_rfl)
theorem impl_Heap_touch_j3v1_eq (x0 : Int) (x1 : Int) (x2 : Int) (x3 : Int) (x4 : Int) (x5 : Sl) (x6 : Sl) : impl_Heap_touch_j3v1 x0 x1 x2 x3 x4 x5 x6 =
  oguard (decide (((x6.1 + 1) * 24) ≤ 140737488351232)) (
  olet (x6.2 ++ ((vDs (LS.encs sh_Access ((w64 (x1 + x0)), x3, x4, ()))) :: [])) fun (e3 : (List (List D))) =>
  some ((.d (.bool true)), [(.box [(.own 1), (.d (.int .i64 x2)), (.d (.int .i64 x3)), (.d (.int .i64 x4)), (.own 2)]), (.row 1 x5.1 false false x5.2), (.row 3 (x6.1 + 1) false true e3)])) := (evI_eq ..).trans (by kernel_rfl)
theorem spec_l1Byte_eq (x0 : T_l1Cur) : spec_l1Byte x0 =
  oguard true (
  oguard true (
  oite (decide (x0.2.1 < ((x0.1.1 : Nat) : Int)))
    (oat [(.int .u8)] x0.1.1 x0.1.2 x0.2.1 fun (t0 : (Int × Unit)) =>
    some ((.d (.int .i64 (w64 (((BitVec.toNat ((BitVec.ofInt 64 (w64 ((w64 (((BitVec.toNat ((BitVec.ofInt 64 (w64 (((BitVec.toNat ((BitVec.ofInt 64 (Int.fdiv (w64 ((w64 (x0.2.2.1 * (6364136223846793005 : Int))) + (1442695040888963407 : Int))) (8589934592 : Int))) ^^^ (BitVec.ofInt 64 (Int.fdiv (w64 ((w64 (x0.2.2.1 * (6364136223846793005 : Int))) + (1442695040888963407 : Int))) (35184372088832 : Int))))) : Nat) : Int))) &&& (BitVec.ofInt 64 (255 : Int)))) : Nat) : Int)) + (w64 t0.1)))) &&& (BitVec.ofInt 64 (255 : Int)))) : Nat) : Int)))), [(.box (LS.encs sh_l1Cur (x0.1, (w64 (x0.2.1 + (1 : Int))), (w64 ((w64 (x0.2.2.1 * (6364136223846793005 : Int))) + (1442695040888963407 : Int))), ())))]))
    (some ((.d (.int .i64 (w64 (((BitVec.toNat ((BitVec.ofInt 64 (w64 (((BitVec.toNat ((BitVec.ofInt 64 (Int.fdiv (w64 ((w64 (x0.2.2.1 * (6364136223846793005 : Int))) + (1442695040888963407 : Int))) (8589934592 : Int))) ^^^ (BitVec.ofInt 64 (Int.fdiv (w64 ((w64 (x0.2.2.1 * (6364136223846793005 : Int))) + (1442695040888963407 : Int))) (35184372088832 : Int))))) : Nat) : Int))) &&& (BitVec.ofInt 64 (255 : Int)))) : Nat) : Int)))), [(.box (LS.encs sh_l1Cur (x0.1, x0.2.1, (w64 ((w64 (x0.2.2.1 * (6364136223846793005 : Int))) + (1442695040888963407 : Int))), ())))])))) := (evF_eq ..).trans (by kernel_rfl)
theorem spec_l1num_eq (x0 : T_l1Cur) : spec_l1num x0 =
  ocall (.m (.one (.int .i64))) [(.box sh_l1Cur)] (spec_l1Below (5 : Int) x0) fun (r0 : Int) (m1 : (T_l1Cur × Unit)) =>
  oite (r0 == (0 : Int))
    (ocall (.m (.one (.int .i64))) [(.box sh_l1Cur)] (spec_l1Below (4 : Int) m1.1) fun (r2 : Int) (m3 : (T_l1Cur × Unit)) =>
    some ((.d (.int .i64 r2)), [(.box (LS.encs sh_l1Cur m3.1))]))
    (oite (r0 == (1 : Int))
      (ocall (.m (.one (.int .i64))) [(.box sh_l1Cur)] (spec_l1PickInt (10, (((D.int .i64 (126 : Int)) :: []) :: (((D.int .i64 (127 : Int)) :: []) :: (((D.int .i64 (128 : Int)) :: []) :: (((D.int .i64 (129 : Int)) :: []) :: (((D.int .i64 (16383 : Int)) :: []) :: (((D.int .i64 (16384 : Int)) :: []) :: (((D.int .i64 (2097151 : Int)) :: []) :: (((D.int .i64 (2097152 : Int)) :: []) :: (((D.int .i64 (2147483646 : Int)) :: []) :: (((D.int .i64 (2147483647 : Int)) :: []) :: []))))))))))) m1.1) fun (r4 : Int) (m5 : (T_l1Cur × Unit)) =>
      some ((.d (.int .i64 r4)), [(.box (LS.encs sh_l1Cur m5.1))]))
      (oite (r0 == (2 : Int))
        (ocall (.m (.one (.int .i64))) [(.box sh_l1Cur)] (spec_l1Below (40000 : Int) m1.1) fun (r6 : Int) (m7 : (T_l1Cur × Unit)) =>
        some ((.d (.int .i64 r6)), [(.box (LS.encs sh_l1Cur m7.1))]))
        (oite (r0 == (3 : Int))
          (ocall (.m (.one (.int .i64))) [(.box sh_l1Cur)] (spec_l1PickInt (6, (((D.int .i64 (-1 : Int)) :: []) :: (((D.int .i64 (-2 : Int)) :: []) :: (((D.int .i64 (2147483648 : Int)) :: []) :: (((D.int .i64 (4611686018427387904 : Int)) :: []) :: (((D.int .i64 (-9223372036854775808 : Int)) :: []) :: (((D.int .i64 (9223372036854775807 : Int)) :: []) :: []))))))) m1.1) fun (r8 : Int) (m9 : (T_l1Cur × Unit)) =>
          some ((.d (.int .i64 r8)), [(.box (LS.encs sh_l1Cur m9.1))]))
          (ocall (.m (.one (.int .i64))) [(.box sh_l1Cur)] (spec_l1Below (2147483647 : Int) m1.1) fun (r10 : Int) (m11 : (T_l1Cur × Unit)) =>
          some ((.d (.int .i64 r10)), [(.box (LS.encs sh_l1Cur m11.1))]))))) := (evF_eq ..).trans (by kernel_rfl)
theorem spec_l2in_eq (x0 : Int) (x1 : Int) (x2 : Int) (x3 : Int) (x4 : Int) (x5 : Sl) (x6 : Sl) : spec_l2in x0 x1 x2 x3 x4 x5 x6 =
  oite (decide (x0 ≥ x3))
    (oite (decide (x0 < x4))
      (oite (decide (x1 ≥ (0 : Int)))
        (some ((.d (.bool (decide (x1 < (w64 (x4 - x0)))))), [(.box [(.own 1), (.d (.int .i64 x2)), (.d (.int .i64 x3)), (.d (.int .i64 x4)), (.own 2)]), (.row 1 x5.1 false false x5.2), (.row 3 x6.1 false false x6.2)]))
        (some ((.d (.bool false)), [(.box [(.own 1), (.d (.int .i64 x2)), (.d (.int .i64 x3)), (.d (.int .i64 x4)), (.own 2)]), (.row 1 x5.1 false false x5.2), (.row 3 x6.1 false false x6.2)])))
      (some ((.d (.bool false)), [(.box [(.own 1), (.d (.int .i64 x2)), (.d (.int .i64 x3)), (.d (.int .i64 x4)), (.own 2)]), (.row 1 x5.1 false false x5.2), (.row 3 x6.1 false false x6.2)])))
    (some ((.d (.bool false)), [(.box [(.own 1), (.d (.int .i64 x2)), (.d (.int .i64 x3)), (.d (.int .i64 x4)), (.own 2)]), (.row 1 x5.1 false false x5.2), (.row 3 x6.1 false false x6.2)])) := (evF_eq ..).trans (by kernel_rfl)
noncomputable def spec_l2log_j1 (x0 : Int) (x1 : Int) (x2 : Int) (x3 : Int) (x4 : Nat) (x5 : Nat) (x6 : Sl) (x7 : Sl) : Res := (fun (p : Env × Mem) => evI cx 141 3 1 p.1 p.2) ([(0, (.ptr 0 0)), (1, (.d (.int .i64 x0)))], [(.box [(.own 1), (.d (.int .i64 x1)), (.d (.int .i64 x2)), (.d (.int .i64 x3)), (.ref 2 x4 x5)]), (.row 1 x6.1 false false x6.2), (.row 3 x7.1 false false x7.2)])
noncomputable def spec_l2log_j1v1 (x0 : Int) (x1 : Int) (x2 : Int) (x3 : Int) (x4 : Sl) (x5 : Sl) : Res := (fun (p : Env × Mem) => evI cx 141 3 1 p.1 p.2) ([(0, (.ptr 0 0)), (1, (.d (.int .i64 x0)))], [(.box [(.own 1), (.d (.int .i64 x1)), (.d (.int .i64 x2)), (.d (.int .i64 x3)), (.own 2)]), (.row 1 x4.1 false false x4.2), (.row 3 x5.1 false false x5.2)])
theorem spec_l2log_eq (x0 : Int) (x1 : Int) (x2 : Int) (x3 : Int) (x4 : Sl) (x5 : Sl) : spec_l2log x0 x1 x2 x3 x4 x5 =
  oite (((x5.1 : Nat) : Int) == (4000 : Int))
    (oguard (decide (((0 : Int) ≤ (1 : Int)) ∧ ((1 : Int) ≤ ((x5.1 : Nat) : Int)))) (
    spec_l2log_j1 x0 x1 x2 x3 1 (x5.1 - 1) x4 x5))
    (spec_l2log_j1v1 x0 x1 x2 x3 x4 x5) := (evF_eq ..).trans (by kernel_rfl)
theorem spec_l2log_j1_eq (x0 : Int) (x1 : Int) (x2 : Int) (x3 : Int) (x4 : Nat) (x5 : Nat) (x6 : Sl) (x7 : Sl) : spec_l2log_j1 x0 x1 x2 x3 x4 x5 x6 x7 =
  oguard ((decide (((x5 + 1) * 24) ≤ 140737488351232)) && (true || (decide ((x4 + x5) = x7.1)))) (
  olet ((List.take x5 (List.drop x4 x7.2)) ++ ((vDs (LS.encs sh_Access (x0, x2, x3, ()))) :: [])) fun (e0 : (List (List D))) =>
  some ((.tup []), [(.box [(.own 1), (.d (.int .i64 x1)), (.d (.int .i64 x2)), (.d (.int .i64 x3)), (.own 2)]), (.row 1 x6.1 false false x6.2), (.row 3 (x5 + 1) false true e0)])) := (evI_eq ..).trans (by kernel_rfl)
theorem spec_l2log_j1v1_eq (x0 : Int) (x1 : Int) (x2 : Int) (x3 : Int) (x4 : Sl) (x5 : Sl) : spec_l2log_j1v1 x0 x1 x2 x3 x4 x5 =
  oguard (decide (((x5.1 + 1) * 24) ≤ 140737488351232)) (
  olet (x5.2 ++ ((vDs (LS.encs sh_Access (x0, x2, x3, ()))) :: [])) fun (e1 : (List (List D))) =>
  some ((.tup []), [(.box [(.own 1), (.d (.int .i64 x1)), (.d (.int .i64 x2)), (.d (.int .i64 x3)), (.own 2)]), (.row 1 x4.1 false false x4.2), (.row 3 (x5.1 + 1) false true e1)])) := (evI_eq ..).trans (by kernel_rfl)
theorem impl_Heap_taken_eq (x0 : Int) (x1 : Int) (x2 : Int) (x3 : Int) (x4 : Sl) (x5 : Sl) : impl_Heap_taken x0 x1 x2 x3 x4 x5 =
  ocall (.m (.one .bool)) [] (impl_within x0 x2 (w64 (x3 - (1 : Int)))) fun (r0 : Bool) (m1 : Unit) =>
  some ((.d (.bool r0)), [(.box [(.own 1), (.d (.int .i64 x1)), (.d (.int .i64 x2)), (.d (.int .i64 x3)), (.own 2)]), (.row 1 x4.1 false false x4.2), (.row 3 x5.1 false false x5.2)]) := (evF_eq ..).trans (by kernel_rfl)
theorem ty29 : TIok Try.prog 29 ⟨13, 184, true, (.st [(0, 3), (1, 3), (2, 3), (3, 3), (4, 22), (5, 25), (8, 25), (11, 26), (12, 27)]), [.d (.int .i64 0), .d (.int .i64 0), .d (.int .i64 0), .d (.int .i64 0), .d (.sl true 1 0 []), .d (.int .i64 0), .d (.int .i64 0), .d (.sl true 3 0 []), .d (.int .i64 0), .d (.int .i64 0), .d (.sl true 3 0 []), .d (.sl true 13 0 []), .d (.sl true 15 0 [])], [.int .i64, .int .i64, .int .i64, .int .i64, .sl 1, .int .i64, .int .i64, .sl 3, .int .i64, .int .i64, .sl 3, .sl 13, .sl 15]⟩ := ⟨Try.sizeOf29, Try.isAgg29, ⟨_, Try.runUnderlying29, rfl, f_cons Try.sizeOf3 (f_cons Try.sizeOf3 (f_cons Try.sizeOf3 (f_cons Try.sizeOf3 (f_cons Try.sizeOf22 (f_cons Try.sizeOf25 (f_cons Try.sizeOf25 (f_cons Try.sizeOf26 (f_cons Try.sizeOf27 (f_end)))))))))⟩, ⟨_, Try.typeInfo29, rfl⟩, by decide, by decide, ⟨_, Try.zeroValue29, rfl, fun w C ι => z_cons z_int (z_cons z_int (z_cons z_int (z_cons z_int (z_cons z_nil (z_cons z_int (z_cons z_int (z_cons z_nil (z_cons z_int (z_cons z_int (z_cons z_nil (z_cons z_nil (z_cons z_nil (z_end)))))))))))))⟩⟩
theorem ty3 : TIok Try.prog 3 ⟨1, 8, false, (.int .i64), [.d (.int .i64 0)], [.int .i64]⟩ := ⟨Try.sizeOf3, Try.isAgg3, Try.runUnderlying3, ⟨_, Try.typeInfo3, rfl⟩, by decide, by decide, ⟨_, Try.zeroValue3, rfl, fun w C ι => z_cons z_int (z_end)⟩⟩
theorem ty22 : TIok Try.prog 22 ⟨1, 24, false, (.sl 5), [.d (.sl true 1 0 [])], [.sl 1]⟩ := ⟨Try.sizeOf22, Try.isAgg22, Try.runUnderlying22, ⟨_, Try.typeInfo22, rfl⟩, by decide, by decide, ⟨_, Try.zeroValue22, rfl, fun w C ι => z_cons z_nil (z_end)⟩⟩
theorem ty5 : TIok Try.prog 5 ⟨1, 1, false, (.int .u8), [.d (.int .u8 0)], [.int .u8]⟩ := ⟨Try.sizeOf5, Try.isAgg5, Try.runUnderlying5, ⟨_, Try.typeInfo5, rfl⟩, by decide, by decide, ⟨_, Try.zeroValue5, rfl, fun w C ι => z_cons z_int (z_end)⟩⟩
theorem ty25 : TIok Try.prog 25 ⟨3, 40, true, (.st [(0, 3), (1, 3), (2, 23)]), [.d (.int .i64 0), .d (.int .i64 0), .d (.sl true 3 0 [])], [.int .i64, .int .i64, .sl 3]⟩ := ⟨Try.sizeOf25, Try.isAgg25, ⟨_, Try.runUnderlying25, rfl, f_cons Try.sizeOf3 (f_cons Try.sizeOf3 (f_cons Try.sizeOf23 (f_end)))⟩, ⟨_, Try.typeInfo25, rfl⟩, by decide, by decide, ⟨_, Try.zeroValue25, rfl, fun w C ι => z_cons z_int (z_cons z_int (z_cons z_nil (z_end)))⟩⟩
theorem ty23 : TIok Try.prog 23 ⟨1, 24, false, (.sl 25), [.d (.sl true 3 0 [])], [.sl 3]⟩ := ⟨Try.sizeOf23, Try.isAgg23, Try.runUnderlying23, ⟨_, Try.typeInfo23, rfl⟩, by decide, by decide, ⟨_, Try.zeroValue23, rfl, fun w C ι => z_cons z_nil (z_end)⟩⟩
theorem ty26 : TIok Try.prog 26 ⟨1, 24, false, (.sl 29), [.d (.sl true 13 0 [])], [.sl 13]⟩ := ⟨Try.sizeOf26, Try.isAgg26, Try.runUnderlying26, ⟨_, Try.typeInfo26, rfl⟩, by decide, by decide, ⟨_, Try.zeroValue26, rfl, fun w C ι => z_cons z_nil (z_end)⟩⟩
theorem ty27 : TIok Try.prog 27 ⟨1, 24, false, (.sl 165), [.d (.sl true 15 0 [])], [.sl 15]⟩ := ⟨Try.sizeOf27, Try.isAgg27, Try.runUnderlying27, ⟨_, Try.typeInfo27, rfl⟩, by decide, by decide, ⟨_, Try.zeroValue27, rfl, fun w C ι => z_cons z_nil (z_end)⟩⟩
theorem ty165 : TIok Try.prog 165 ⟨15, 216, true, (.st [(0, 3), (1, 42), (2, 29)]), [.d (.int .i64 0), .d (.sl true 1 0 []), .d (.int .i64 0), .d (.int .i64 0), .d (.int .i64 0), .d (.int .i64 0), .d (.sl true 1 0 []), .d (.int .i64 0), .d (.int .i64 0), .d (.sl true 3 0 []), .d (.int .i64 0), .d (.int .i64 0), .d (.sl true 3 0 []), .d (.sl true 13 0 []), .d (.sl true 15 0 [])], [.int .i64, .sl 1, .int .i64, .int .i64, .int .i64, .int .i64, .sl 1, .int .i64, .int .i64, .sl 3, .int .i64, .int .i64, .sl 3, .sl 13, .sl 15]⟩ := ⟨Try.sizeOf165, Try.isAgg165, ⟨_, Try.runUnderlying165, rfl, f_cons Try.sizeOf3 (f_cons Try.sizeOf42 (f_cons Try.sizeOf29 (f_end)))⟩, ⟨_, Try.typeInfo165, rfl⟩, by decide, by decide, ⟨_, Try.zeroValue165, rfl, fun w C ι => z_cons z_int (z_cons z_nil (z_cons z_int (z_cons z_int (z_cons z_int (z_cons z_int (z_cons z_nil (z_cons z_int (z_cons z_int (z_cons z_nil (z_cons z_int (z_cons z_int (z_cons z_nil (z_cons z_nil (z_cons z_nil (z_end)))))))))))))))⟩⟩
theorem ty42 : TIok Try.prog 42 ⟨1, 24, false, (.sl 3), [.d (.sl true 1 0 [])], [.sl 1]⟩ := ⟨Try.sizeOf42, Try.isAgg42, Try.runUnderlying42, ⟨_, Try.typeInfo42, rfl⟩, by decide, by decide, ⟨_, Try.zeroValue42, rfl, fun w C ι => z_cons z_nil (z_end)⟩⟩
theorem ty4 : TIok Try.prog 4 ⟨1, 1, false, .bool, [.d (.bool false)], [.bool]⟩ := ⟨Try.sizeOf4, Try.isAgg4, Try.runUnderlying4, ⟨_, Try.typeInfo4, rfl⟩, by decide, by decide, ⟨_, Try.zeroValue4, rfl, fun w C ι => z_cons z_bool (z_end)⟩⟩
theorem ty38 : TIok Try.prog 38 ⟨13, 184, true, (.st [(0, 3), (1, 3), (2, 3), (3, 3), (4, 22), (5, 34), (8, 34), (11, 35), (12, 36)]), [.d (.int .i64 0), .d (.int .i64 0), .d (.int .i64 0), .d (.int .i64 0), .d (.sl true 1 0 []), .d (.int .i64 0), .d (.int .i64 0), .d (.sl true 3 0 []), .d (.int .i64 0), .d (.int .i64 0), .d (.sl true 3 0 []), .d (.sl true 13 0 []), .d (.sl true 15 0 [])], [.int .i64, .int .i64, .int .i64, .int .i64, .sl 1, .int .i64, .int .i64, .sl 3, .int .i64, .int .i64, .sl 3, .sl 13, .sl 15]⟩ := ⟨Try.sizeOf38, Try.isAgg38, ⟨_, Try.runUnderlying38, rfl, f_cons Try.sizeOf3 (f_cons Try.sizeOf3 (f_cons Try.sizeOf3 (f_cons Try.sizeOf3 (f_cons Try.sizeOf22 (f_cons Try.sizeOf34 (f_cons Try.sizeOf34 (f_cons Try.sizeOf35 (f_cons Try.sizeOf36 (f_end)))))))))⟩, ⟨_, Try.typeInfo38, rfl⟩, by decide, by decide, ⟨_, Try.zeroValue38, rfl, fun w C ι => z_cons z_int (z_cons z_int (z_cons z_int (z_cons z_int (z_cons z_nil (z_cons z_int (z_cons z_int (z_cons z_nil (z_cons z_int (z_cons z_int (z_cons z_nil (z_cons z_nil (z_cons z_nil (z_end)))))))))))))⟩⟩
theorem ty34 : TIok Try.prog 34 ⟨3, 40, true, (.st [(0, 3), (1, 3), (2, 32)]), [.d (.int .i64 0), .d (.int .i64 0), .d (.sl true 3 0 [])], [.int .i64, .int .i64, .sl 3]⟩ := ⟨Try.sizeOf34, Try.isAgg34, ⟨_, Try.runUnderlying34, rfl, f_cons Try.sizeOf3 (f_cons Try.sizeOf3 (f_cons Try.sizeOf32 (f_end)))⟩, ⟨_, Try.typeInfo34, rfl⟩, by decide, by decide, ⟨_, Try.zeroValue34, rfl, fun w C ι => z_cons z_int (z_cons z_int (z_cons z_nil (z_end)))⟩⟩
theorem ty32 : TIok Try.prog 32 ⟨1, 24, false, (.sl 34), [.d (.sl true 3 0 [])], [.sl 3]⟩ := ⟨Try.sizeOf32, Try.isAgg32, Try.runUnderlying32, ⟨_, Try.typeInfo32, rfl⟩, by decide, by decide, ⟨_, Try.zeroValue32, rfl, fun w C ι => z_cons z_nil (z_end)⟩⟩
theorem ty35 : TIok Try.prog 35 ⟨1, 24, false, (.sl 38), [.d (.sl true 13 0 [])], [.sl 13]⟩ := ⟨Try.sizeOf35, Try.isAgg35, Try.runUnderlying35, ⟨_, Try.typeInfo35, rfl⟩, by decide, by decide, ⟨_, Try.zeroValue35, rfl, fun w C ι => z_cons z_nil (z_end)⟩⟩
theorem ty36 : TIok Try.prog 36 ⟨1, 24, false, (.sl 169), [.d (.sl true 15 0 [])], [.sl 15]⟩ := ⟨Try.sizeOf36, Try.isAgg36, Try.runUnderlying36, ⟨_, Try.typeInfo36, rfl⟩, by decide, by decide, ⟨_, Try.zeroValue36, rfl, fun w C ι => z_cons z_nil (z_end)⟩⟩
theorem ty169 : TIok Try.prog 169 ⟨15, 216, true, (.st [(0, 3), (1, 42), (2, 38)]), [.d (.int .i64 0), .d (.sl true 1 0 []), .d (.int .i64 0), .d (.int .i64 0), .d (.int .i64 0), .d (.int .i64 0), .d (.sl true 1 0 []), .d (.int .i64 0), .d (.int .i64 0), .d (.sl true 3 0 []), .d (.int .i64 0), .d (.int .i64 0), .d (.sl true 3 0 []), .d (.sl true 13 0 []), .d (.sl true 15 0 [])], [.int .i64, .sl 1, .int .i64, .int .i64, .int .i64, .int .i64, .sl 1, .int .i64, .int .i64, .sl 3, .int .i64, .int .i64, .sl 3, .sl 13, .sl 15]⟩ := ⟨Try.sizeOf169, Try.isAgg169, ⟨_, Try.runUnderlying169, rfl, f_cons Try.sizeOf3 (f_cons Try.sizeOf42 (f_cons Try.sizeOf38 (f_end)))⟩, ⟨_, Try.typeInfo169, rfl⟩, by decide, by decide, ⟨_, Try.zeroValue169, rfl, fun w C ι => z_cons z_int (z_cons z_nil (z_cons z_int (z_cons z_int (z_cons z_int (z_cons z_int (z_cons z_nil (z_cons z_int (z_cons z_int (z_cons z_nil (z_cons z_int (z_cons z_int (z_cons z_nil (z_cons z_nil (z_cons z_nil (z_end)))))))))))))))⟩⟩
theorem ty45 : TIok Try.prog 45 ⟨5, 72, true, (.st [(0, 42), (1, 3), (2, 3), (3, 3), (4, 43)]), [.d (.sl true 1 0 []), .d (.int .i64 0), .d (.int .i64 0), .d (.int .i64 0), .d (.sl true 3 0 [])], [.sl 1, .int .i64, .int .i64, .int .i64, .sl 3]⟩ := ⟨Try.sizeOf45, Try.isAgg45, ⟨_, Try.runUnderlying45, rfl, f_cons Try.sizeOf42 (f_cons Try.sizeOf3 (f_cons Try.sizeOf3 (f_cons Try.sizeOf3 (f_cons Try.sizeOf43 (f_end)))))⟩, ⟨_, Try.typeInfo45, rfl⟩, by decide, by decide, ⟨_, Try.zeroValue45, rfl, fun w C ι => z_cons z_nil (z_cons z_int (z_cons z_int (z_cons z_int (z_cons z_nil (z_end)))))⟩⟩
theorem ty43 : TIok Try.prog 43 ⟨1, 24, false, (.sl 175), [.d (.sl true 3 0 [])], [.sl 3]⟩ := ⟨Try.sizeOf43, Try.isAgg43, Try.runUnderlying43, ⟨_, Try.typeInfo43, rfl⟩, by decide, by decide, ⟨_, Try.zeroValue43, rfl, fun w C ι => z_cons z_nil (z_end)⟩⟩
theorem ty175 : TIok Try.prog 175 ⟨3, 24, true, (.st [(0, 3), (1, 3), (2, 3)]), [.d (.int .i64 0), .d (.int .i64 0), .d (.int .i64 0)], [.int .i64, .int .i64, .int .i64]⟩ := ⟨Try.sizeOf175, Try.isAgg175, ⟨_, Try.runUnderlying175, rfl, f_cons Try.sizeOf3 (f_cons Try.sizeOf3 (f_cons Try.sizeOf3 (f_end)))⟩, ⟨_, Try.typeInfo175, rfl⟩, by decide, by decide, ⟨_, Try.zeroValue175, rfl, fun w C ι => z_cons z_int (z_cons z_int (z_cons z_int (z_end)))⟩⟩
theorem ty49 : TIok Try.prog 49 ⟨5, 72, true, (.st [(0, 42), (1, 3), (2, 3), (3, 3), (4, 47)]), [.d (.sl true 1 0 []), .d (.int .i64 0), .d (.int .i64 0), .d (.int .i64 0), .d (.sl true 3 0 [])], [.sl 1, .int .i64, .int .i64, .int .i64, .sl 3]⟩ := ⟨Try.sizeOf49, Try.isAgg49, ⟨_, Try.runUnderlying49, rfl, f_cons Try.sizeOf42 (f_cons Try.sizeOf3 (f_cons Try.sizeOf3 (f_cons Try.sizeOf3 (f_cons Try.sizeOf47 (f_end)))))⟩, ⟨_, Try.typeInfo49, rfl⟩, by decide, by decide, ⟨_, Try.zeroValue49, rfl, fun w C ι => z_cons z_nil (z_cons z_int (z_cons z_int (z_cons z_int (z_cons z_nil (z_end)))))⟩⟩
theorem ty47 : TIok Try.prog 47 ⟨1, 24, false, (.sl 173), [.d (.sl true 3 0 [])], [.sl 3]⟩ := ⟨Try.sizeOf47, Try.isAgg47, Try.runUnderlying47, ⟨_, Try.typeInfo47, rfl⟩, by decide, by decide, ⟨_, Try.zeroValue47, rfl, fun w C ι => z_cons z_nil (z_end)⟩⟩
theorem ty173 : TIok Try.prog 173 ⟨3, 24, true, (.st [(0, 3), (1, 3), (2, 3)]), [.d (.int .i64 0), .d (.int .i64 0), .d (.int .i64 0)], [.int .i64, .int .i64, .int .i64]⟩ := ⟨Try.sizeOf173, Try.isAgg173, ⟨_, Try.runUnderlying173, rfl, f_cons Try.sizeOf3 (f_cons Try.sizeOf3 (f_cons Try.sizeOf3 (f_end)))⟩, ⟨_, Try.typeInfo173, rfl⟩, by decide, by decide, ⟨_, Try.zeroValue173, rfl, fun w C ι => z_cons z_int (z_cons z_int (z_cons z_int (z_end)))⟩⟩
theorem ty78 : TIok Try.prog 78 ⟨1, 24, false, (.sl 139), [.d (.sl true 4 0 [])], [.sl 4]⟩ := ⟨Try.sizeOf78, Try.isAgg78, Try.runUnderlying78, ⟨_, Try.typeInfo78, rfl⟩, by decide, by decide, ⟨_, Try.zeroValue78, rfl, fun w C ι => z_cons z_nil (z_end)⟩⟩
theorem ty139 : TIok Try.prog 139 ⟨4, 48, true, (.st [(0, 3), (1, 25)]), [.d (.int .i64 0), .d (.int .i64 0), .d (.int .i64 0), .d (.sl true 3 0 [])], [.int .i64, .int .i64, .int .i64, .sl 3]⟩ := ⟨Try.sizeOf139, Try.isAgg139, ⟨_, Try.runUnderlying139, rfl, f_cons Try.sizeOf3 (f_cons Try.sizeOf25 (f_end))⟩, ⟨_, Try.typeInfo139, rfl⟩, by decide, by decide, ⟨_, Try.zeroValue139, rfl, fun w C ι => z_cons z_int (z_cons z_int (z_cons z_int (z_cons z_nil (z_end))))⟩⟩
theorem ty81 : TIok Try.prog 81 ⟨1, 24, false, (.sl 99), [.d (.sl true 4 0 [])], [.sl 4]⟩ := ⟨Try.sizeOf81, Try.isAgg81, Try.runUnderlying81, ⟨_, Try.typeInfo81, rfl⟩, by decide, by decide, ⟨_, Try.zeroValue81, rfl, fun w C ι => z_cons z_nil (z_end)⟩⟩
theorem ty99 : TIok Try.prog 99 ⟨4, 48, true, (.st [(0, 3), (1, 34)]), [.d (.int .i64 0), .d (.int .i64 0), .d (.int .i64 0), .d (.sl true 3 0 [])], [.int .i64, .int .i64, .int .i64, .sl 3]⟩ := ⟨Try.sizeOf99, Try.isAgg99, ⟨_, Try.runUnderlying99, rfl, f_cons Try.sizeOf3 (f_cons Try.sizeOf34 (f_end))⟩, ⟨_, Try.typeInfo99, rfl⟩, by decide, by decide, ⟨_, Try.zeroValue99, rfl, fun w C ι => z_cons z_int (z_cons z_int (z_cons z_int (z_cons z_nil (z_end))))⟩⟩
theorem ty106 : TIok Try.prog 106 ⟨1, 8, false, .other, [.undef], [.undef]⟩ := ⟨Try.sizeOf106, Try.isAgg106, trivial, ⟨_, Try.typeInfo106, rfl⟩, by decide, by decide, ⟨_, Try.zeroValue106, rfl, fun w C ι => z_cons z_un (z_end)⟩⟩
theorem ty115 : TIok Try.prog 115 ⟨1, 8, false, .other, [.undef], [.undef]⟩ := ⟨Try.sizeOf115, Try.isAgg115, trivial, ⟨_, Try.typeInfo115, rfl⟩, by decide, by decide, ⟨_, Try.zeroValue115, rfl, fun w C ι => z_cons z_un (z_end)⟩⟩
theorem ty126 : TIok Try.prog 126 ⟨1, 8, false, .other, [.undef], [.undef]⟩ := ⟨Try.sizeOf126, Try.isAgg126, trivial, ⟨_, Try.typeInfo126, rfl⟩, by decide, by decide, ⟨_, Try.zeroValue126, rfl, fun w C ι => z_cons z_un (z_end)⟩⟩
theorem ty182 : TIok Try.prog 182 ⟨3, 40, true, (.st [(0, 22), (1, 3), (2, 3)]), [.d (.sl true 1 0 []), .d (.int .i64 0), .d (.int .i64 0)], [.sl 1, .int .i64, .int .i64]⟩ := ⟨Try.sizeOf182, Try.isAgg182, ⟨_, Try.runUnderlying182, rfl, f_cons Try.sizeOf22 (f_cons Try.sizeOf3 (f_cons Try.sizeOf3 (f_end)))⟩, ⟨_, Try.typeInfo182, rfl⟩, by decide, by decide, ⟨_, Try.zeroValue182, rfl, fun w C ι => z_cons z_nil (z_cons z_int (z_cons z_int (z_end)))⟩⟩
theorem ty135 : TIok Try.prog 135 ⟨1, 8, false, .other, [.undef], [.undef]⟩ := ⟨Try.sizeOf135, Try.isAgg135, trivial, ⟨_, Try.typeInfo135, rfl⟩, by decide, by decide, ⟨_, Try.zeroValue135, rfl, fun w C ι => z_cons z_un (z_end)⟩⟩
theorem ty143 : TIok Try.prog 143 ⟨1, 8, false, .other, [.undef], [.undef]⟩ := ⟨Try.sizeOf143, Try.isAgg143, trivial, ⟨_, Try.typeInfo143, rfl⟩, by decide, by decide, ⟨_, Try.zeroValue143, rfl, fun w C ι => z_cons z_un (z_end)⟩⟩
theorem ty150 : TIok Try.prog 150 ⟨2, 32, true, (.st [(0, 81), (1, 148)]), [.d (.sl true 4 0 []), .undef], [.sl 4, .undef]⟩ := ⟨Try.sizeOf150, Try.isAgg150, ⟨_, Try.runUnderlying150, rfl, f_cons Try.sizeOf81 (f_cons Try.sizeOf148 (f_end))⟩, ⟨_, Try.typeInfo150, rfl⟩, by decide, by decide, ⟨_, Try.zeroValue150, rfl, fun w C ι => z_cons z_nil (z_cons z_un (z_end))⟩⟩
theorem ty148 : TIok Try.prog 148 ⟨1, 8, false, .other, [.undef], [.undef]⟩ := ⟨Try.sizeOf148, Try.isAgg148, trivial, ⟨_, Try.typeInfo148, rfl⟩, by decide, by decide, ⟨_, Try.zeroValue148, rfl, fun w C ι => z_cons z_un (z_end)⟩⟩
theorem ty156 : TIok Try.prog 156 ⟨1, 8, false, .other, [.undef], [.undef]⟩ := ⟨Try.sizeOf156, Try.isAgg156, trivial, ⟨_, Try.typeInfo156, rfl⟩, by decide, by decide, ⟨_, Try.zeroValue156, rfl, fun w C ι => z_cons z_un (z_end)⟩⟩
theorem ty162 : TIok Try.prog 162 ⟨1, 8, false, .other, [.undef], [.undef]⟩ := ⟨Try.sizeOf162, Try.isAgg162, trivial, ⟨_, Try.typeInfo162, rfl⟩, by decide, by decide, ⟨_, Try.zeroValue162, rfl, fun w C ι => z_cons z_un (z_end)⟩⟩
theorem ty167 : TIok Try.prog 167 ⟨1, 8, false, .other, [.undef], [.undef]⟩ := ⟨Try.sizeOf167, Try.isAgg167, trivial, ⟨_, Try.typeInfo167, rfl⟩, by decide, by decide, ⟨_, Try.zeroValue167, rfl, fun w C ι => z_cons z_un (z_end)⟩⟩
theorem ty91 : TIok Try.prog 91 ⟨1, 8, false, .other, [.undef], [.undef]⟩ := ⟨Try.sizeOf91, Try.isAgg91, trivial, ⟨_, Try.typeInfo91, rfl⟩, by decide, by decide, ⟨_, Try.zeroValue91, rfl, fun w C ι => z_cons z_un (z_end)⟩⟩
theorem ty193 : TIok Try.prog 193 ⟨1, 8, false, (.int .u64), [.d (.int .u64 0)], [.int .u64]⟩ := ⟨Try.sizeOf193, Try.isAgg193, Try.runUnderlying193, ⟨_, Try.typeInfo193, rfl⟩, by decide, by decide, ⟨_, Try.zeroValue193, rfl, fun w C ι => z_cons z_int (z_end)⟩⟩
theorem ty198 : TIok Try.prog 198 ⟨1, 8, false, (.int .i64), [.d (.int .i64 0)], [.int .i64]⟩ := ⟨Try.sizeOf198, Try.isAgg198, Try.runUnderlying198, ⟨_, Try.typeInfo198, rfl⟩, by decide, by decide, ⟨_, Try.zeroValue198, rfl, fun w C ι => z_cons z_int (z_end)⟩⟩
theorem ty205 : TIok Try.prog 205 ⟨1, 4, false, (.int .u32), [.d (.int .u32 0)], [.int .u32]⟩ := ⟨Try.sizeOf205, Try.isAgg205, Try.runUnderlying205, ⟨_, Try.typeInfo205, rfl⟩, by decide, by decide, ⟨_, Try.zeroValue205, rfl, fun w C ι => z_cons z_int (z_end)⟩⟩
theorem ty207 : TIok Try.prog 207 ⟨1, 8, false, (.int .u64), [.d (.int .u64 0)], [.int .u64]⟩ := ⟨Try.sizeOf207, Try.isAgg207, Try.runUnderlying207, ⟨_, Try.typeInfo207, rfl⟩, by decide, by decide, ⟨_, Try.zeroValue207, rfl, fun w C ι => z_cons z_int (z_end)⟩⟩
theorem ty208 : TIok Try.prog 208 ⟨1, 8, false, (.int .u64), [.d (.int .u64 0)], [.int .u64]⟩ := ⟨Try.sizeOf208, Try.isAgg208, Try.runUnderlying208, ⟨_, Try.typeInfo208, rfl⟩, by decide, by decide, ⟨_, Try.zeroValue208, rfl, fun w C ι => z_cons z_int (z_end)⟩⟩
theorem ty9 : TIok Try.prog 9 ⟨1, 16, false, .str, [.d (.str ⟨#[]⟩)], [.str]⟩ := ⟨Try.sizeOf9, Try.isAgg9, Try.runUnderlying9, ⟨_, Try.typeInfo9, rfl⟩, by decide, by decide, ⟨_, Try.zeroValue9, rfl, fun w C ι => z_cons z_str (z_end)⟩⟩
theorem ty213 : TIok Try.prog 213 ⟨1, 8, false, .other, [.undef], [.undef]⟩ := ⟨Try.sizeOf213, Try.isAgg213, trivial, ⟨_, Try.typeInfo213, rfl⟩, by decide, by decide, ⟨_, Try.zeroValue213, rfl, fun w C ι => z_cons z_un (z_end)⟩⟩
theorem ty8 : TIok Try.prog 8 ⟨4, 24, true, (.st [(0, 2), (1, 3), (2, 4), (3, 6)]), [.d (.int .i64 0), .d (.int .i64 0), .d (.bool false), .d (.int .u8 0)], [.int .i64, .int .i64, .bool, .int .u8]⟩ := ⟨Try.sizeOf8, Try.isAgg8, ⟨_, Try.runUnderlying8, rfl, f_cons Try.sizeOf2 (f_cons Try.sizeOf3 (f_cons Try.sizeOf4 (f_cons Try.sizeOf6 (f_end))))⟩, ⟨_, Try.typeInfo8, rfl⟩, by decide, by decide, ⟨_, Try.zeroValue8, rfl, fun w C ι => z_cons z_int (z_cons z_int (z_cons z_bool (z_cons z_int (z_end))))⟩⟩
theorem ty2 : TIok Try.prog 2 ⟨1, 8, false, (.int .i64), [.d (.int .i64 0)], [.int .i64]⟩ := ⟨Try.sizeOf2, Try.isAgg2, Try.runUnderlying2, ⟨_, Try.typeInfo2, rfl⟩, by decide, by decide, ⟨_, Try.zeroValue2, rfl, fun w C ι => z_cons z_int (z_end)⟩⟩
theorem ty6 : TIok Try.prog 6 ⟨1, 1, false, (.int .u8), [.d (.int .u8 0)], [.int .u8]⟩ := ⟨Try.sizeOf6, Try.isAgg6, Try.runUnderlying6, ⟨_, Try.typeInfo6, rfl⟩, by decide, by decide, ⟨_, Try.zeroValue6, rfl, fun w C ι => z_cons z_int (z_end)⟩⟩
theorem ty10 : TIok Try.prog 10 ⟨1, 16, false, .str, [.d (.str ⟨#[]⟩)], [.str]⟩ := ⟨Try.sizeOf10, Try.isAgg10, Try.runUnderlying10, ⟨_, Try.typeInfo10, rfl⟩, by decide, by decide, ⟨_, Try.zeroValue10, rfl, fun w C ι => z_cons z_str (z_end)⟩⟩
theorem ty11 : TIok Try.prog 11 ⟨1, 16, false, .str, [.d (.str ⟨#[]⟩)], [.str]⟩ := ⟨Try.sizeOf11, Try.isAgg11, Try.runUnderlying11, ⟨_, Try.typeInfo11, rfl⟩, by decide, by decide, ⟨_, Try.zeroValue11, rfl, fun w C ι => z_cons z_str (z_end)⟩⟩
theorem ty14 : TIok Try.prog 14 ⟨2, 24, true, (.st [(0, 9), (1, 12)]), [.d (.str ⟨#[]⟩), .d (.int .u64 0)], [.str, .int .u64]⟩ := ⟨Try.sizeOf14, Try.isAgg14, ⟨_, Try.runUnderlying14, rfl, f_cons Try.sizeOf9 (f_cons Try.sizeOf12 (f_end))⟩, ⟨_, Try.typeInfo14, rfl⟩, by decide, by decide, ⟨_, Try.zeroValue14, rfl, fun w C ι => z_cons z_str (z_cons z_int (z_end))⟩⟩
theorem ty12 : TIok Try.prog 12 ⟨1, 8, false, (.int .u64), [.d (.int .u64 0)], [.int .u64]⟩ := ⟨Try.sizeOf12, Try.isAgg12, Try.runUnderlying12, ⟨_, Try.typeInfo12, rfl⟩, by decide, by decide, ⟨_, Try.zeroValue12, rfl, fun w C ι => z_cons z_int (z_end)⟩⟩
theorem ty15 : TIok Try.prog 15 ⟨1, 8, false, .other, [.undef], [.undef]⟩ := ⟨Try.sizeOf15, Try.isAgg15, trivial, ⟨_, Try.typeInfo15, rfl⟩, by decide, by decide, ⟨_, Try.zeroValue15, rfl, fun w C ι => z_cons z_un (z_end)⟩⟩
theorem ty218 : TIok Try.prog 218 ⟨4, 40, true, (.st [(0, 17), (1, 17), (2, 17), (3, 9)]), [.undef, .undef, .undef, .d (.str ⟨#[]⟩)], [.undef, .undef, .undef, .str]⟩ := ⟨Try.sizeOf218, Try.isAgg218, ⟨_, Try.runUnderlying218, rfl, f_cons Try.sizeOf17 (f_cons Try.sizeOf17 (f_cons Try.sizeOf17 (f_cons Try.sizeOf9 (f_end))))⟩, ⟨_, Try.typeInfo218, rfl⟩, by decide, by decide, ⟨_, Try.zeroValue218, rfl, fun w C ι => z_cons z_un (z_cons z_un (z_cons z_un (z_cons z_str (z_end))))⟩⟩
theorem ty17 : TIok Try.prog 17 ⟨1, 8, false, .other, [.undef], [.undef]⟩ := ⟨Try.sizeOf17, Try.isAgg17, trivial, ⟨_, Try.typeInfo17, rfl⟩, by decide, by decide, ⟨_, Try.zeroValue17, rfl, fun w C ι => z_cons z_un (z_end)⟩⟩
theorem ty229 : TIok Try.prog 229 ⟨11, 48, true, (.st [(0, 12), (1, 12), (2, 205), (3, 222), (4, 5), (5, 5), (6, 223), (7, 224), (8, 225), (9, 226), (10, 227)]), [.d (.int .u64 0), .d (.int .u64 0), .d (.int .u32 0), .d (.int .u8 0), .d (.int .u8 0), .d (.int .u8 0), .d (.int .u8 0), .undef, .undef, .d (.int .i32 0), .d (.int .i32 0)], [.int .u64, .int .u64, .int .u32, .int .u8, .int .u8, .int .u8, .int .u8, .undef, .undef, .int .i32, .int .i32]⟩ := ⟨Try.sizeOf229, Try.isAgg229, ⟨_, Try.runUnderlying229, rfl, f_cons Try.sizeOf12 (f_cons Try.sizeOf12 (f_cons Try.sizeOf205 (f_cons Try.sizeOf222 (f_cons Try.sizeOf5 (f_cons Try.sizeOf5 (f_cons Try.sizeOf223 (f_cons Try.sizeOf224 (f_cons Try.sizeOf225 (f_cons Try.sizeOf226 (f_cons Try.sizeOf227 (f_end)))))))))))⟩, ⟨_, Try.typeInfo229, rfl⟩, by decide, by decide, ⟨_, Try.zeroValue229, rfl, fun w C ι => z_cons z_int (z_cons z_int (z_cons z_int (z_cons z_int (z_cons z_int (z_cons z_int (z_cons z_int (z_cons z_un (z_cons z_un (z_cons z_int (z_cons z_int (z_end)))))))))))⟩⟩
theorem ty222 : TIok Try.prog 222 ⟨1, 1, false, (.int .u8), [.d (.int .u8 0)], [.int .u8]⟩ := ⟨Try.sizeOf222, Try.isAgg222, Try.runUnderlying222, ⟨_, Try.typeInfo222, rfl⟩, by decide, by decide, ⟨_, Try.zeroValue222, rfl, fun w C ι => z_cons z_int (z_end)⟩⟩
theorem ty223 : TIok Try.prog 223 ⟨1, 1, false, (.int .u8), [.d (.int .u8 0)], [.int .u8]⟩ := ⟨Try.sizeOf223, Try.isAgg223, Try.runUnderlying223, ⟨_, Try.typeInfo223, rfl⟩, by decide, by decide, ⟨_, Try.zeroValue223, rfl, fun w C ι => z_cons z_int (z_end)⟩⟩
theorem ty224 : TIok Try.prog 224 ⟨1, 8, false, .other, [.undef], [.undef]⟩ := ⟨Try.sizeOf224, Try.isAgg224, trivial, ⟨_, Try.typeInfo224, rfl⟩, by decide, by decide, ⟨_, Try.zeroValue224, rfl, fun w C ι => z_cons z_un (z_end)⟩⟩
theorem ty225 : TIok Try.prog 225 ⟨1, 8, false, .other, [.undef], [.undef]⟩ := ⟨Try.sizeOf225, Try.isAgg225, trivial, ⟨_, Try.typeInfo225, rfl⟩, by decide, by decide, ⟨_, Try.zeroValue225, rfl, fun w C ι => z_cons z_un (z_end)⟩⟩
theorem ty226 : TIok Try.prog 226 ⟨1, 4, false, (.int .i32), [.d (.int .i32 0)], [.int .i32]⟩ := ⟨Try.sizeOf226, Try.isAgg226, Try.runUnderlying226, ⟨_, Try.typeInfo226, rfl⟩, by decide, by decide, ⟨_, Try.zeroValue226, rfl, fun w C ι => z_cons z_int (z_end)⟩⟩
theorem ty227 : TIok Try.prog 227 ⟨1, 4, false, (.int .i32), [.d (.int .i32 0)], [.int .i32]⟩ := ⟨Try.sizeOf227, Try.isAgg227, Try.runUnderlying227, ⟨_, Try.typeInfo227, rfl⟩, by decide, by decide, ⟨_, Try.zeroValue227, rfl, fun w C ι => z_cons z_int (z_end)⟩⟩
theorem ty16 : TIok Try.prog 16 ⟨1, 8, false, .other, [.undef], [.undef]⟩ := ⟨Try.sizeOf16, Try.isAgg16, trivial, ⟨_, Try.typeInfo16, rfl⟩, by decide, by decide, ⟨_, Try.zeroValue16, rfl, fun w C ι => z_cons z_un (z_end)⟩⟩
theorem ty19 : TIok Try.prog 19 ⟨1, 8, true, (.st [(0, 17)]), [.undef], [.undef]⟩ := ⟨Try.sizeOf19, Try.isAgg19, ⟨_, Try.runUnderlying19, rfl, f_cons Try.sizeOf17 (f_end)⟩, ⟨_, Try.typeInfo19, rfl⟩, by decide, by decide, ⟨_, Try.zeroValue19, rfl, fun w C ι => z_cons z_un (z_end)⟩⟩
theorem ty232 : TIok Try.prog 232 ⟨1, 8, false, .other, [.undef], [.undef]⟩ := ⟨Try.sizeOf232, Try.isAgg232, trivial, ⟨_, Try.typeInfo232, rfl⟩, by decide, by decide, ⟨_, Try.zeroValue232, rfl, fun w C ι => z_cons z_un (z_end)⟩⟩
theorem fn7 : FnOk Try.prog 7 I7 := ⟨Try.call7, Try.func7, by kernel_rfl, by kernel_rfl, by kernel_rfl⟩
theorem fn22 : FnOk Try.prog 22 I22 := ⟨Try.call22, Try.func22, by kernel_rfl, by kernel_rfl, by kernel_rfl⟩
theorem fn27 : FnOk Try.prog 27 I27 := ⟨Try.call27, Try.func27, by kernel_rfl, by kernel_rfl, by kernel_rfl⟩
theorem fn29 : FnOk Try.prog 29 I29 := ⟨Try.call29, Try.func29, by kernel_rfl, by kernel_rfl, by kernel_rfl⟩
theorem fn30 : FnOk Try.prog 30 I30 := ⟨Try.call30, Try.func30, by kernel_rfl, by kernel_rfl, by kernel_rfl⟩
theorem fn31 : FnOk Try.prog 31 I31 := ⟨Try.call31, Try.func31, by kernel_rfl, by kernel_rfl, by kernel_rfl⟩
theorem fn32 : FnOk Try.prog 32 I32 := ⟨Try.call32, Try.func32, by kernel_rfl, by kernel_rfl, by kernel_rfl⟩
theorem fn33 : FnOk Try.prog 33 I33 := ⟨Try.call33, Try.func33, by kernel_rfl, by kernel_rfl, by kernel_rfl⟩
theorem fn34 : FnOk Try.prog 34 I34 := ⟨Try.call34, Try.func34, by kernel_rfl, by kernel_rfl, by kernel_rfl⟩
theorem fn35 : FnOk Try.prog 35 I35 := ⟨Try.call35, Try.func35, by kernel_rfl, by kernel_rfl, by kernel_rfl⟩
theorem fn80 : FnOk Try.prog 80 I80 := ⟨Try.call80, Try.func80, by kernel_rfl, by kernel_rfl, by kernel_rfl⟩
theorem fn83 : FnOk Try.prog 83 I83 := ⟨Try.call83, Try.func83, by kernel_rfl, by kernel_rfl, by kernel_rfl⟩
theorem fn84 : FnOk Try.prog 84 I84 := ⟨Try.call84, Try.func84, by kernel_rfl, by kernel_rfl, by kernel_rfl⟩
theorem fn92 : FnOk Try.prog 92 I92 := ⟨Try.call92, Try.func92, by kernel_rfl, by kernel_rfl, by kernel_rfl⟩
theorem fn93 : FnOk Try.prog 93 I93 := ⟨Try.call93, Try.func93, by kernel_rfl, by kernel_rfl, by kernel_rfl⟩
theorem fn94 : FnOk Try.prog 94 I94 := ⟨Try.call94, Try.func94, by kernel_rfl, by kernel_rfl, by kernel_rfl⟩
theorem fn95 : FnOk Try.prog 95 I95 := ⟨Try.call95, Try.func95, by kernel_rfl, by kernel_rfl, by kernel_rfl⟩
theorem fn96 : FnOk Try.prog 96 I96 := ⟨Try.call96, Try.func96, by kernel_rfl, by kernel_rfl, by kernel_rfl⟩
theorem fn97 : FnOk Try.prog 97 I97 := ⟨Try.call97, Try.func97, by kernel_rfl, by kernel_rfl, by kernel_rfl⟩
theorem fn98 : FnOk Try.prog 98 I98 := ⟨Try.call98, Try.func98, by kernel_rfl, by kernel_rfl, by kernel_rfl⟩
theorem fn99 : FnOk Try.prog 99 I99 := ⟨Try.call99, Try.func99, by kernel_rfl, by kernel_rfl, by kernel_rfl⟩
theorem fn119 : FnOk Try.prog 119 I119 := ⟨Try.call119, Try.func119, by kernel_rfl, by kernel_rfl, by kernel_rfl⟩
theorem fn130 : FnOk Try.prog 130 I130 := ⟨Try.call130, Try.func130, by kernel_rfl, by kernel_rfl, by kernel_rfl⟩
theorem fn137 : FnOk Try.prog 137 I137 := ⟨Try.call137, Try.func137, by kernel_rfl, by kernel_rfl, by kernel_rfl⟩
theorem fn138 : FnOk Try.prog 138 I138 := ⟨Try.call138, Try.func138, by kernel_rfl, by kernel_rfl, by kernel_rfl⟩
theorem fn140 : FnOk Try.prog 140 I140 := ⟨Try.call140, Try.func140, by kernel_rfl, by kernel_rfl, by kernel_rfl⟩
theorem fn141 : FnOk Try.prog 141 I141 := ⟨Try.call141, Try.func141, by kernel_rfl, by kernel_rfl, by kernel_rfl⟩
theorem fn142 : FnOk Try.prog 142 I142 := ⟨Try.call142, Try.func142, by kernel_rfl, by kernel_rfl, by kernel_rfl⟩
theorem fn143 : FnOk Try.prog 143 I143 := ⟨Try.call143, Try.func143, by kernel_rfl, by kernel_rfl, by kernel_rfl⟩
theorem fn144 : FnOk Try.prog 144 I144 := ⟨Try.call144, Try.func144, by kernel_rfl, by kernel_rfl, by kernel_rfl⟩
theorem fn154 : FnOk Try.prog 154 I154 := ⟨Try.call154, Try.func154, by kernel_rfl, by kernel_rfl, by kernel_rfl⟩
theorem fn159 : FnOk Try.prog 159 I159 := ⟨Try.call159, Try.func159, by kernel_rfl, by kernel_rfl, by kernel_rfl⟩
theorem fn160 : FnOk Try.prog 160 I160 := ⟨Try.call160, Try.func160, by kernel_rfl, by kernel_rfl, by kernel_rfl⟩
theorem cxOk : CxOk Try.prog cx := cxOk_of ⟨ty29, ty3, ty22, ty5, ty25, ty23, ty26, ty27, ty165, ty42, ty4, ty38, ty34, ty32, ty35, ty36, ty169, ty45, ty43, ty175, ty49, ty47, ty173, ty78, ty139, ty81, ty99, ty106, ty115, ty126, ty182, ty135, ty143, ty150, ty148, ty156, ty162, ty167, ty91, ty193, ty198, ty205, ty207, ty208, ty9, ty213, ty8, ty2, ty6, ty10, ty11, ty14, ty12, ty15, ty218, ty17, ty229, ty222, ty223, ty224, ty225, ty226, ty227, ty16, ty19, ty232, trivial⟩ ⟨fn7, fn22, fn27, fn29, fn30, fn31, fn32, fn33, fn34, fn35, fn80, fn83, fn84, fn92, fn93, fn94, fn95, fn96, fn97, fn98, fn99, fn119, fn130, fn137, fn138, fn140, fn141, fn142, fn143, fn144, fn154, fn159, fn160, trivial⟩ (by kernel_rfl)
end Go.Ev.Q
