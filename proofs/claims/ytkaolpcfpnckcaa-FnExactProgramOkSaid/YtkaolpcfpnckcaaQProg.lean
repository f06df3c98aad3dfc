/- The equations of the functions that a law reaches, printed out of the translation by a program of this session; Lean checks each. -/
import Derived.Test.YtkaolpcfpnckcaaEvDat
import Derived.KernelRfl
import Derived.Test.YtkaolpcfpnckcaaProg
open Go Go.Ev Go.Proofs
set_option maxRecDepth 100000
set_option linter.unusedVariables false
namespace Go.Ev.Q
noncomputable def tyL : List (Nat × TI) := [(26, ⟨3, 72, true, (.st [(0, 22), (1, 23), (2, 24)]), [.d (.sl true 1 0 []), .d (.sl true 9 0 []), .d (.sl true 1 0 [])], [.sl 1, .sl 9, .sl 1]⟩),
  (22, ⟨1, 24, false, (.sl 89), [.d (.sl true 1 0 [])], [.sl 1]⟩),
  (89, ⟨1, 24, true, (.st [(0, 87)]), [.d (.sl true 1 0 [])], [.sl 1]⟩),
  (87, ⟨1, 24, false, (.sl 37), [.d (.sl true 1 0 [])], [.sl 1]⟩),
  (37, ⟨1, 24, false, (.sl 39), [.d (.sl true 3 0 [])], [.sl 3]⟩),
  (39, ⟨3, 40, true, (.st [(0, 3), (1, 3), (2, 37)]), [.d (.int .i64 0), .d (.int .i64 0), .d (.sl true 3 0 [])], [.int .i64, .int .i64, .sl 3]⟩),
  (3, ⟨1, 8, false, (.int .i64), [.d (.int .i64 0)], [.int .i64]⟩),
  (23, ⟨1, 24, false, (.sl 93), [.d (.sl true 9 0 [])], [.sl 9]⟩),
  (93, ⟨9, 152, true, (.st [(0, 37), (1, 39), (4, 39), (7, 37), (8, 91)]), [.d (.sl true 3 0 []), .d (.int .i64 0), .d (.int .i64 0), .d (.sl true 3 0 []), .d (.int .i64 0), .d (.int .i64 0), .d (.sl true 3 0 []), .d (.sl true 3 0 []), .d (.sl true 5 0 [])], [.sl 3, .int .i64, .int .i64, .sl 3, .int .i64, .int .i64, .sl 3, .sl 3, .sl 5]⟩),
  (91, ⟨1, 24, false, (.sl 166), [.d (.sl true 5 0 [])], [.sl 5]⟩),
  (166, ⟨5, 72, true, (.st [(0, 3), (1, 3), (2, 3), (3, 36), (4, 24)]), [.d (.int .i64 0), .d (.int .i64 0), .d (.int .i64 0), .d (.sl true 1 0 []), .d (.sl true 1 0 [])], [.int .i64, .int .i64, .int .i64, .sl 1, .sl 1]⟩),
  (36, ⟨1, 24, false, (.sl 5), [.d (.sl true 1 0 [])], [.sl 1]⟩),
  (5, ⟨1, 1, false, (.int .u8), [.d (.int .u8 0)], [.int .u8]⟩),
  (24, ⟨1, 24, false, (.sl 3), [.d (.sl true 1 0 [])], [.sl 1]⟩),
  (4, ⟨1, 1, false, .bool, [.d (.bool false)], [.bool]⟩),
  (32, ⟨3, 72, true, (.st [(0, 29), (1, 30), (2, 24)]), [.d (.sl true 1 0 []), .d (.sl true 9 0 []), .d (.sl true 1 0 [])], [.sl 1, .sl 9, .sl 1]⟩),
  (29, ⟨1, 24, false, (.sl 106), [.d (.sl true 1 0 [])], [.sl 1]⟩),
  (106, ⟨1, 24, true, (.st [(0, 104)]), [.d (.sl true 1 0 [])], [.sl 1]⟩),
  (104, ⟨1, 24, false, (.sl 46), [.d (.sl true 1 0 [])], [.sl 1]⟩),
  (46, ⟨1, 24, false, (.sl 48), [.d (.sl true 3 0 [])], [.sl 3]⟩),
  (48, ⟨3, 40, true, (.st [(0, 3), (1, 3), (2, 46)]), [.d (.int .i64 0), .d (.int .i64 0), .d (.sl true 3 0 [])], [.int .i64, .int .i64, .sl 3]⟩),
  (30, ⟨1, 24, false, (.sl 97), [.d (.sl true 9 0 [])], [.sl 9]⟩),
  (97, ⟨9, 152, true, (.st [(0, 46), (1, 48), (4, 48), (7, 46), (8, 95)]), [.d (.sl true 3 0 []), .d (.int .i64 0), .d (.int .i64 0), .d (.sl true 3 0 []), .d (.int .i64 0), .d (.int .i64 0), .d (.sl true 3 0 []), .d (.sl true 3 0 []), .d (.sl true 5 0 [])], [.sl 3, .int .i64, .int .i64, .sl 3, .int .i64, .int .i64, .sl 3, .sl 3, .sl 5]⟩),
  (95, ⟨1, 24, false, (.sl 102), [.d (.sl true 5 0 [])], [.sl 5]⟩),
  (102, ⟨5, 72, true, (.st [(0, 3), (1, 3), (2, 3), (3, 36), (4, 24)]), [.d (.int .i64 0), .d (.int .i64 0), .d (.int .i64 0), .d (.sl true 1 0 []), .d (.sl true 1 0 [])], [.int .i64, .int .i64, .int .i64, .sl 1, .sl 1]⟩),
  (43, ⟨13, 184, true, (.st [(0, 3), (1, 3), (2, 3), (3, 3), (4, 36), (5, 39), (8, 39), (11, 40), (12, 41)]), [.d (.int .i64 0), .d (.int .i64 0), .d (.int .i64 0), .d (.int .i64 0), .d (.sl true 1 0 []), .d (.int .i64 0), .d (.int .i64 0), .d (.sl true 3 0 []), .d (.int .i64 0), .d (.int .i64 0), .d (.sl true 3 0 []), .d (.sl true 13 0 []), .d (.sl true 15 0 [])], [.int .i64, .int .i64, .int .i64, .int .i64, .sl 1, .int .i64, .int .i64, .sl 3, .int .i64, .int .i64, .sl 3, .sl 13, .sl 15]⟩),
  (40, ⟨1, 24, false, (.sl 43), [.d (.sl true 13 0 [])], [.sl 13]⟩),
  (41, ⟨1, 24, false, (.sl 123), [.d (.sl true 15 0 [])], [.sl 15]⟩),
  (123, ⟨15, 216, true, (.st [(0, 3), (1, 24), (2, 43)]), [.d (.int .i64 0), .d (.sl true 1 0 []), .d (.int .i64 0), .d (.int .i64 0), .d (.int .i64 0), .d (.int .i64 0), .d (.sl true 1 0 []), .d (.int .i64 0), .d (.int .i64 0), .d (.sl true 3 0 []), .d (.int .i64 0), .d (.int .i64 0), .d (.sl true 3 0 []), .d (.sl true 13 0 []), .d (.sl true 15 0 [])], [.int .i64, .sl 1, .int .i64, .int .i64, .int .i64, .int .i64, .sl 1, .int .i64, .int .i64, .sl 3, .int .i64, .int .i64, .sl 3, .sl 13, .sl 15]⟩),
  (52, ⟨13, 184, true, (.st [(0, 3), (1, 3), (2, 3), (3, 3), (4, 36), (5, 48), (8, 48), (11, 49), (12, 50)]), [.d (.int .i64 0), .d (.int .i64 0), .d (.int .i64 0), .d (.int .i64 0), .d (.sl true 1 0 []), .d (.int .i64 0), .d (.int .i64 0), .d (.sl true 3 0 []), .d (.int .i64 0), .d (.int .i64 0), .d (.sl true 3 0 []), .d (.sl true 13 0 []), .d (.sl true 15 0 [])], [.int .i64, .int .i64, .int .i64, .int .i64, .sl 1, .int .i64, .int .i64, .sl 3, .int .i64, .int .i64, .sl 3, .sl 13, .sl 15]⟩),
  (49, ⟨1, 24, false, (.sl 52), [.d (.sl true 13 0 [])], [.sl 13]⟩),
  (50, ⟨1, 24, false, (.sl 129), [.d (.sl true 15 0 [])], [.sl 15]⟩),
  (129, ⟨15, 216, true, (.st [(0, 3), (1, 24), (2, 52)]), [.d (.int .i64 0), .d (.sl true 1 0 []), .d (.int .i64 0), .d (.int .i64 0), .d (.int .i64 0), .d (.int .i64 0), .d (.sl true 1 0 []), .d (.int .i64 0), .d (.int .i64 0), .d (.sl true 3 0 []), .d (.int .i64 0), .d (.int .i64 0), .d (.sl true 3 0 []), .d (.sl true 13 0 []), .d (.sl true 15 0 [])], [.int .i64, .sl 1, .int .i64, .int .i64, .int .i64, .int .i64, .sl 1, .int .i64, .int .i64, .sl 3, .int .i64, .int .i64, .sl 3, .sl 13, .sl 15]⟩),
  (78, ⟨1, 8, false, .other, [.undef], [.undef]⟩),
  (116, ⟨1, 8, false, .other, [.undef], [.undef]⟩),
  (125, ⟨1, 8, false, .other, [.undef], [.undef]⟩),
  (133, ⟨1, 8, false, .other, [.undef], [.undef]⟩),
  (135, ⟨1, 8, false, .other, [.undef], [.undef]⟩),
  (142, ⟨1, 8, false, .other, [.undef], [.undef]⟩),
  (100, ⟨1, 8, false, .other, [.undef], [.undef]⟩),
  (156, ⟨1, 8, false, (.int .u64), [.d (.int .u64 0)], [.int .u64]⟩),
  (158, ⟨4, 4, true, (.st [(0, 4), (1, 4), (2, 4), (3, 4)]), [.d (.bool false), .d (.bool false), .d (.bool false), .d (.bool false)], [.bool, .bool, .bool, .bool]⟩),
  (1, ⟨1, 8, false, .other, [.undef], [.undef]⟩),
  (20, ⟨1, 16, false, .other, [.undef], [.undef]⟩),
  (9, ⟨1, 16, false, .str, [.d (.str ⟨#[]⟩)], [.str]⟩),
  (170, ⟨1, 8, false, .other, [.undef], [.undef]⟩),
  (145, ⟨1, 8, false, .other, [.undef], [.undef]⟩),
  (175, ⟨1, 8, false, (.int .i64), [.d (.int .i64 0)], [.int .i64]⟩),
  (183, ⟨1, 4, false, (.int .u32), [.d (.int .u32 0)], [.int .u32]⟩),
  (185, ⟨1, 8, false, (.int .u64), [.d (.int .u64 0)], [.int .u64]⟩),
  (187, ⟨1, 8, false, .other, [.undef], [.undef]⟩),
  (189, ⟨1, 8, false, (.int .u64), [.d (.int .u64 0)], [.int .u64]⟩),
  (195, ⟨1, 8, false, .other, [.undef], [.undef]⟩),
  (8, ⟨4, 24, true, (.st [(0, 2), (1, 3), (2, 4), (3, 6)]), [.d (.int .i64 0), .d (.int .i64 0), .d (.bool false), .d (.int .u8 0)], [.int .i64, .int .i64, .bool, .int .u8]⟩),
  (2, ⟨1, 8, false, (.int .i64), [.d (.int .i64 0)], [.int .i64]⟩),
  (6, ⟨1, 1, false, (.int .u8), [.d (.int .u8 0)], [.int .u8]⟩),
  (10, ⟨1, 16, false, .str, [.d (.str ⟨#[]⟩)], [.str]⟩),
  (11, ⟨1, 16, false, .str, [.d (.str ⟨#[]⟩)], [.str]⟩),
  (14, ⟨2, 24, true, (.st [(0, 9), (1, 12)]), [.d (.str ⟨#[]⟩), .d (.int .u64 0)], [.str, .int .u64]⟩),
  (12, ⟨1, 8, false, (.int .u64), [.d (.int .u64 0)], [.int .u64]⟩),
  (15, ⟨1, 8, false, .other, [.undef], [.undef]⟩),
  (200, ⟨4, 40, true, (.st [(0, 17), (1, 17), (2, 17), (3, 9)]), [.undef, .undef, .undef, .d (.str ⟨#[]⟩)], [.undef, .undef, .undef, .str]⟩),
  (17, ⟨1, 8, false, .other, [.undef], [.undef]⟩),
  (212, ⟨11, 48, true, (.st [(0, 12), (1, 12), (2, 183), (3, 205), (4, 5), (5, 5), (6, 206), (7, 207), (8, 208), (9, 209), (10, 210)]), [.d (.int .u64 0), .d (.int .u64 0), .d (.int .u32 0), .d (.int .u8 0), .d (.int .u8 0), .d (.int .u8 0), .d (.int .u8 0), .undef, .undef, .d (.int .i32 0), .d (.int .i32 0)], [.int .u64, .int .u64, .int .u32, .int .u8, .int .u8, .int .u8, .int .u8, .undef, .undef, .int .i32, .int .i32]⟩),
  (205, ⟨1, 1, false, (.int .u8), [.d (.int .u8 0)], [.int .u8]⟩),
  (206, ⟨1, 1, false, (.int .u8), [.d (.int .u8 0)], [.int .u8]⟩),
  (207, ⟨1, 8, false, .other, [.undef], [.undef]⟩),
  (208, ⟨1, 8, false, .other, [.undef], [.undef]⟩),
  (209, ⟨1, 4, false, (.int .i32), [.d (.int .i32 0)], [.int .i32]⟩),
  (210, ⟨1, 4, false, (.int .i32), [.d (.int .i32 0)], [.int .i32]⟩),
  (16, ⟨1, 8, false, .other, [.undef], [.undef]⟩),
  (19, ⟨1, 8, true, (.st [(0, 17)]), [.undef], [.undef]⟩)]
def ann3 : Ann := (.s .o (.s .o (.s .o (.s (.s .o (.s (.s .o .o) .o)) (.s .o (.s .o (.s .o (.s (.s .o (.s (.s .o .o) .o)) (.s (.s (.f [1, 2, 0, 3, 4] 0 [0, 1, 4] [(2, [0])]) (.s (.s .o .o) .o)) (.s .o .o))))))))))
def ann5 : Ann := (.s .o (.s .o (.s (.s .o (.s (.s .o .o) .o)) (.s .o (.s (.s .o (.s (.s .o .o) .o)) (.s .o (.s (.s .o (.s (.s .o .o) .o)) (.s .o .o))))))))
def ann6 : Ann := (.s .o (.s .o .o))
def ann7 : Ann := (.s .o (.s .o (.s .o (.s .o (.s .o (.s .o .o))))))
def ann8 : Ann := (.s .o (.s .o .o))
def ann9 : Ann := (.s .o (.s (.s .o (.s (.s .o .o) .o)) (.s (.s .o (.s (.s .o .o) .o)) (.s (.s .o (.s (.s .o .o) .o)) (.s .o .o)))))
def ann14 : Ann := (.s .o (.s (.s .o (.s (.s .o .o) .o)) (.s (.s .o (.b (.l ⟨1, [], [], [5, 1, 0], [], []⟩ (.s (.s .o (.s .o .o)) (.s (.b (.s (.r [0, 1, 2, 3, 4, 5, 6, 7, 8] 0 9 []) (.s (.s .o .o) .o))) .o))))) (.s .o .o))))
def ann19 : Ann := (.s .o (.s .o (.s (.s .o (.s (.s .o .o) .o)) (.s (.s .o (.b (.l ⟨1, [], [], [5, 1, 0], [], []⟩ (.s (.s .o (.s .o .o)) (.s (.b (.s .o (.s .o (.s (.s .o .o) .o)))) .o))))) (.s .o .o)))))
def ann20 : Ann := (.s .o (.s .o (.s (.s .o (.s (.s .o .o) .o)) (.s (.s .o (.b (.l ⟨1, [], [], [5, 1, 0], [], []⟩ (.s (.s .o (.s .o .o)) (.s (.b (.s .o (.s .o (.s (.s .o .o) .o)))) .o))))) (.s .o .o)))))
def ann21 : Ann := (.s .o (.s .o (.s (.s .o (.s (.s .o .o) .o)) (.s .o .o))))
def ann22 : Ann := (.s .o (.s .o (.j ⟨1, [], [], [1, 3], [], []⟩ (.j ⟨2, [], [], [1, 3, 32], [], []⟩ .o (.s (.s .o .o) .o)) (.s (.s .o (.b (.l ⟨3, [], [], [4, 1, 3], [], []⟩ (.s (.s .o (.s .o .o)) (.s (.b (.j ⟨4, [], [], [1, 3, 4, 71], [], []⟩ (.r [0, 1, 2, 3, 4, 5, 6, 7, 8, 9, 10, 11, 12, 13, 14, 15, 16, 17, 18, 19, 20, 21, 22, 23, 24, 25, 26, 27, 28, 29, 30, 31] 0 32 []) (.s (.s .o .o) .o))) .o))))) (.s (.s .o (.b (.l ⟨5, [], [], [5, 3, 1], [], []⟩ (.s (.s .o (.s .o .o)) (.s (.b (.s .o (.j ⟨6, [], [], [6, 3, 1, 5], [], []⟩ (.j ⟨7, [], [], [6, 3, 1, 5, 122], [], []⟩ (.r [0, 1, 2, 3, 4, 5, 6, 7, 8, 9, 10, 11, 12, 13, 14, 15, 16, 17, 18, 19, 20, 21, 22, 23, 24, 25, 26, 27, 28, 29, 30, 31, 32, 33, 34, 35, 36, 37, 38] 0 39 []) (.s (.s .o .o) .o)) (.s .o (.b (.l ⟨8, [], [], [7, 6, 3, 1, 5], [], []⟩ (.s (.s .o (.s .o .o)) (.s (.b (.s .o (.s (.s .o .o) .o))) .o)))))))) .o))))) (.s .o .o))))))
def ann23 : Ann := (.s .o (.s .o (.s (.s .o (.b (.l ⟨1, [], [], [4, 1, 3], [], []⟩ (.s (.s .o (.s .o .o)) (.s (.b (.s .o (.s .o (.b (.l ⟨2, [], [], [5, 4, 1, 3], [], []⟩ (.s (.s .o (.s .o .o)) (.s (.b .o) .o))))))) .o))))) (.s .o (.s (.s .o (.b (.l ⟨3, [], [], [6, 1, 3], [], []⟩ (.s (.s .o (.s .o .o)) (.s (.b .o) .o))))) (.s .o (.s (.s .o (.b (.l ⟨4, [], [], [7, 3, 1], [], []⟩ (.s (.s .o (.s .o .o)) (.s (.b (.s .o (.s .o (.s (.f [0, 1, 4, 2, 3, 5, 6, 7] 3 [2, 5] [(3, [5])]) (.s .o (.s .o (.s .o (.b (.l ⟨5, [], [], [9, 8, 3, 1, 7], [], []⟩ (.s (.s .o (.s .o .o)) (.s (.b .o) .o))))))))))) .o))))) (.s .o .o))))))))
def ann24 : Ann := (.s .o (.s .o (.s (.s .o (.b (.l ⟨1, [], [], [4, 0, 3], [], []⟩ (.s (.s .o (.s .o .o)) (.s (.b .o) .o))))) (.s .o .o))))
def ann25 : Ann := (.s .o (.s .o (.s (.s .o (.b (.l ⟨1, [], [], [4, 0, 3], [], []⟩ (.s (.s .o (.s .o .o)) (.s (.b .o) .o))))) (.s .o .o))))
def ann26 : Ann := (.s .o (.s .o (.s (.s .o (.b (.l ⟨1, [], [], [4, 0, 3], [], []⟩ (.s (.s .o (.s .o .o)) (.s (.b .o) .o))))) (.s .o .o))))
def ann27 : Ann := (.s .o (.j ⟨1, [], [], [1], [], []⟩ (.j ⟨2, [], [], [1, 19], [], []⟩ .o (.s (.s .o .o) .o)) (.s .o .o)))
def ann28 : Ann := (.s .o (.s .o (.s (.s .o (.b (.l ⟨1, [], [], [22, 3, 20, 1, 21], [], []⟩ (.s .o (.s (.s .o .o) (.s (.b (.s .o (.s .o (.s .o (.b (.l ⟨2, [], [], [34, 3, 32, 20, 1, 21, 22, 33], [], []⟩ (.s .o (.s (.s .o .o) (.s (.b (.s .o .o)) .o))))))))) .o)))))) (.s (.f [0, 1, 4, 2, 3, 5, 6, 7, 8] 3 [2, 5, 6] [(3, [5, 6])]) (.s (.s .o (.b (.l ⟨3, [], [], [54, 3, 52, 53], [], []⟩ (.s .o (.s (.s .o .o) (.s (.b (.s .o (.s .o (.s (.f [0, 1, 4, 2, 3, 5, 6, 7] 3 [2, 5] [(3, [5])]) (.s (.f [0, 1, 4, 2, 3, 5, 6, 7, 8] 3 [2, 5, 6] [(3, [5, 6])]) (.s .o (.s (.s .o (.b (.l ⟨4, [(10, 1)], [], [81, 10, 79, 52, 53, 54, 3, 80], [], []⟩ (.s .o (.s (.s .o .o) (.s (.b (.s .o .o)) .o)))))) .o))))))) .o)))))) (.s .o .o))))))
def ann29 : Ann := (.s .o (.s (.s .o (.s (.s .o .o) .o)) (.s (.s .o (.b (.l ⟨1, [], [], [5, 1, 0], [], []⟩ (.s (.s .o (.s .o .o)) (.s (.b (.s (.f [0, 1, 4, 5, 2, 3, 6, 7, 8, 9] 4 [2, 3, 6, 7, 9] []) (.s (.s .o .o) .o))) .o))))) (.s .o .o))))
def ann30 : Ann := (.s .o (.s (.s .o (.s (.s .o .o) .o)) (.s (.s .o (.b (.l ⟨1, [], [], [5, 1, 0], [], []⟩ (.s (.s .o (.s .o .o)) (.s (.b (.s (.f [0, 1, 4, 5, 2, 3, 6, 7, 8, 9] 4 [2, 3, 6, 7, 9] []) (.s (.s .o .o) .o))) .o))))) (.s .o .o))))
def ann31 : Ann := (.s .o (.s .o (.s (.s .o (.s (.s .o .o) .o)) (.s .o .o))))
def ann32 : Ann := (.s .o (.s .o (.s (.s .o (.s (.s .o .o) .o)) (.s .o .o))))
def ann37 : Ann := (.s .o (.s .o (.s (.s .o (.b (.l ⟨1, [], [], [4, 0, 3], [], []⟩ (.s (.s .o (.s .o .o)) (.s (.b .o) .o))))) (.s .o .o))))
def ann38 : Ann := (.s .o (.s .o (.s .o (.s .o (.s .o (.s .o .o))))))
def ann43 : Ann := (.s .o (.s (.s .o (.s (.s .o .o) .o)) (.s (.s .o (.b (.l ⟨1, [], [], [5, 1, 0], [], []⟩ (.s (.s .o (.s .o .o)) (.s (.b (.s (.r [0, 1, 2, 3, 4, 5, 6, 7, 8] 0 9 []) (.s (.s .o .o) .o))) .o))))) (.s .o .o))))
def ann44 : Ann := (.s .o (.s (.s .o (.s (.s .o .o) .o)) (.s (.s .o (.s (.s .o .o) .o)) (.s (.s .o (.s (.s .o .o) .o)) (.s .o .o)))))
def ann51 : Ann := (.s .o (.s .o (.s (.s .o (.s (.s .o .o) .o)) (.s .o .o))))
def ann52 : Ann := (.s .o (.s .o (.s (.s .o (.s (.s .o .o) .o)) (.s .o (.s (.s .o (.s (.s .o .o) .o)) (.s .o (.s (.s .o (.s (.s .o .o) .o)) (.s .o (.s (.s .o (.s (.s .o .o) .o)) (.s .o (.s (.s .o (.s (.s .o .o) .o)) (.s .o .o))))))))))))
def ann53 : Ann := (.s .o (.s (.s .o (.s (.s .o .o) .o)) (.s (.s .o (.b (.l ⟨1, [], [], [0, 3], [], []⟩ (.s (.s .o (.s .o .o)) (.s (.b (.j ⟨2, [], [], [0, 3], [], []⟩ (.j ⟨3, [], [], [0, 3, 30], [], []⟩ .o (.s (.s .o .o) .o)) (.s .o (.b (.l ⟨4, [], [], [0, 4, 3], [], []⟩ (.s (.s .o (.s .o .o)) (.s (.b (.s (.s .o (.s (.s .o .o) .o)) (.s .o (.b (.l ⟨5, [], [], [5, 0, 4, 3], [], []⟩ (.s (.s .o (.s .o .o)) (.s (.b (.j ⟨6, [], [], [0, 4, 3, 5, 93], [], []⟩ .o (.s (.s .o .o) .o))) .o))))))) .o))))))) .o))))) (.s .o .o))))
def ann54 : Ann := (.s .o (.s (.s .o (.s (.s .o .o) .o)) (.s (.s .o (.b (.l ⟨1, [], [], [7, 2, 0], [], []⟩ (.s (.s .o (.s .o .o)) (.s (.b (.j ⟨2, [], [], [2, 0, 7, 32], [], []⟩ .o (.s (.s .o .o) .o))) .o))))) (.s .o .o))))
def ann55 : Ann := (.s .o (.s .o .o))
def ann56 : Ann := (.s .o (.j ⟨1, [], [], [1], [], []⟩ (.j ⟨2, [], [], [1, 12], [], []⟩ .o (.s (.s .o .o) .o)) (.s .o (.j ⟨3, [], [], [1, 3], [], []⟩ (.s .o (.s (.s .o (.s (.s .o .o) .o)) (.j ⟨4, [], [], [1, 3, 43], [], []⟩ .o (.s (.s .o .o) .o)))) (.j ⟨5, [], [], [1], [], []⟩ (.j ⟨6, [], [], [1, 91], [], []⟩ .o (.s (.s .o .o) .o)) (.s (.s .o (.b (.l ⟨7, [], [], [4, 1], [], []⟩ (.s (.s .o (.s .o .o)) (.s (.b (.j ⟨8, [], [], [1, 4, 112], [], []⟩ .o (.s (.s .o .o) .o))) .o))))) (.s .o .o)))))))
def ann57 : Ann := (.s .o (.s .o (.j ⟨1, [], [], [1, 5], [], []⟩ (.j ⟨2, [], [], [5, 1, 14], [], []⟩ .o (.s (.s .o .o) .o)) (.s (.b (.l ⟨3, [], [], [1, 5], [], []⟩ (.s (.s .o (.s .o .o)) (.b (.s .o .o))))) (.s .o .o)))))
def ann58 : Ann := (.s .o (.s .o (.s (.s .o (.b (.l ⟨1, [], [], [5, 1, 0], [], []⟩ (.s (.s .o (.s .o .o)) (.s (.b .o) .o))))) (.s .o .o))))
def ann59 : Ann := (.s .o (.s .o (.j ⟨1, [], [], [3, 0], [], [(0, 0)]⟩ (.j ⟨2, [], [], [3, 0, 19], [], []⟩ .o (.s .o .o)) (.j ⟨3, [], [], [3, 0], [], [(0, 0)]⟩ (.s .o (.s .o .o)) (.s (.s .o (.b (.l ⟨4, [], [], [5, 3, 0], [], [(0, 0)]⟩ (.s (.s .o (.s .o .o)) (.s (.b .o) .o))))) (.s .o .o))))))
def ann60 : Ann := (.s .o (.s .o (.s (.s .o (.b (.s .o (.s (.s (.s .o (.s (.s .o .o) .o)) (.s .o .o)) (.s .o (.s (.s (.f [0, 1, 4, 2, 3, 5, 6, 7] 3 [2, 5, 7] [(3, [5])]) .o) (.s .o (.s (.s (.f [0, 1, 4, 2, 3, 5, 6, 7, 8] 3 [2, 5, 6] [(3, [5, 6])]) (.s .o (.b (.l ⟨1, [], [], [5, 3, 0], [], []⟩ (.s (.s .o (.s .o .o)) (.s (.b .o) .o)))))) (.s .o (.s (.s .o .o) .o)))))))))) (.s .o .o))))
def ann61 : Ann := (.s .o (.s .o (.s .o (.s .o .o))))
def ann62 : Ann := (.s .o (.s .o (.s .o (.s .o (.s .o (.s .o (.s .o (.s .o .o))))))))
def ann63 : Ann := (.s .o (.s (.s .o (.s (.s .o .o) .o)) (.s (.s .o (.b (.l ⟨1, [], [], [1, 12, 10, 11], [], []⟩ (.s .o (.s (.s .o .o) (.s (.b (.s .o (.s (.s .o (.s (.s .o .o) .o)) (.s .o (.b (.l ⟨2, [], [], [24, 1, 22, 10, 11, 12, 23], [], []⟩ (.s .o (.s (.s .o .o) (.s (.b (.s .o (.j ⟨3, [], [], [1, 22, 10, 11, 12, 23, 24, 35], [], []⟩ .o (.s (.s .o .o) .o)))) .o))))))))) .o)))))) (.s .o .o))))
def ann64 : Ann := (.s .o (.s .o .o))
def ann65 : Ann := (.s .o (.s (.s .o (.b (.l ⟨1, [], [], [11, 0, 2, 1, 9, 10], [], []⟩ (.s .o (.s (.s .o .o) (.s (.b (.s .o (.j ⟨2, [], [], [0, 2, 1, 9, 10, 11, 33], [], []⟩ .o (.s (.s .o .o) .o)))) .o)))))) (.s .o .o)))
def ann66 : Ann := (.s .o (.s .o .o))
def ann67 : Ann := (.s .o (.s .o .o))
def ann68 : Ann := (.s .o (.j ⟨1, [], [], [1, 2], [], []⟩ (.j ⟨2, [], [], [1, 2, 23], [], []⟩ .o (.s (.s .o .o) .o)) (.s (.s (.f [0, 2, 4, 6, 13, 8, 1, 3, 5, 7, 9, 10, 11, 12] 5 [1, 3, 5, 7, 9, 10, 12] [(8, [1, 3, 5, 7])]) (.b (.l ⟨3, [], [], [37, 1, 35, 2, 36], [], []⟩ (.s .o (.s (.s .o .o) (.s (.b (.s .o (.s .o (.s (.s .o .o) .o)))) .o)))))) (.s .o .o))))
def ann69 : Ann := (.s .o (.s .o (.s (.s .o (.s (.s .o .o) .o)) (.s (.b (.l ⟨1, [], [], [1, 5], [], []⟩ (.s (.s .o (.s .o .o)) (.s (.b .o) .o)))) (.s .o .o)))))
def ann70 : Ann := (.s .o (.s .o (.s (.s .o (.b (.l ⟨1, [], [], [13, 0, 11, 12], [], []⟩ (.s .o (.s (.s .o .o) (.s (.b (.s .o .o)) .o)))))) (.s .o .o))))
def ann71 : Ann := (.s .o (.s .o (.s (.s .o (.b (.l ⟨1, [], [], [13, 0, 11, 12], [], []⟩ (.s .o (.s (.s .o .o) (.s (.b (.s .o .o)) .o)))))) (.s .o .o))))
def ann72 : Ann := (.s .o (.s .o (.j ⟨1, [], [], [3, 0], [], [(0, 0)]⟩ (.j ⟨2, [], [], [3, 0, 20], [], []⟩ .o (.s .o .o)) (.j ⟨3, [], [], [0, 3], [], [(0, 0)]⟩ (.s .o (.s .o .o)) (.s (.s .o (.b (.l ⟨4, [], [], [36, 0, 34, 35], [], [(0, 0)]⟩ (.s .o (.s (.s .o .o) (.s (.b (.s .o .o)) .o)))))) (.s .o .o))))))
def ann73 : Ann := (.s .o (.s .o (.s .o (.j ⟨1, [], [], [3, 5, 0], [], [(0, 0)]⟩ (.b (.s .o (.s (.s .o .o) (.s .o (.s (.s .o .o) (.s .o (.s .o .o))))))) (.j ⟨2, [], [], [3, 0, 5], [], [(0, 0)]⟩ (.s .o (.s .o .o)) (.s (.s .o (.s .o .o)) (.s .o .o)))))))
def ann74 : Ann := (.s .o (.s (.s .o (.s (.s .o .o) .o)) (.s .o .o)))
def ann75 : Ann := (.s .o (.s (.s .o (.s (.s .o .o) .o)) (.s (.s .o (.s (.s .o .o) .o)) (.s (.s .o (.s (.s .o .o) .o)) (.s (.s .o (.s (.s .o .o) .o)) (.s (.s .o (.s (.s .o .o) .o)) (.s .o .o)))))))
def ann76 : Ann := (.s .o (.s .o (.s (.s .o (.s (.s .o .o) .o)) (.s (.s .o (.b (.l ⟨1, [], [], [5, 1, 0], [], []⟩ (.s (.s .o (.s .o .o)) (.s (.b (.s .o (.s .o (.s (.s .o .o) .o)))) .o))))) (.s .o .o)))))
def ann81 : Ann := (.s .o (.s .o (.s (.s .o (.b (.l ⟨1, [], [], [4, 0, 3], [], []⟩ (.s (.s .o (.s .o .o)) (.s (.b .o) .o))))) (.s .o .o))))
def ann86 : Ann := (.s .o (.s (.s .o (.s (.s .o .o) .o)) (.s (.s .o (.b (.l ⟨1, [], [], [5, 1, 0], [], []⟩ (.s (.s .o (.s .o .o)) (.s (.b (.s (.f [0, 1, 4, 5, 2, 3, 6, 7, 8, 9] 4 [2, 3, 6, 7, 9] []) (.s (.s .o .o) .o))) .o))))) (.s .o .o))))
def ann89 : Ann := (.s .o (.s .o (.s (.s .o (.s (.s .o .o) .o)) (.s (.s .o (.b (.l ⟨1, [], [], [5, 1, 0], [], []⟩ (.s (.s .o (.s .o .o)) (.s (.b (.s .o (.s .o (.s (.s .o .o) .o)))) .o))))) (.s .o .o)))))
def ann90 : Ann := (.s .o (.s .o (.s (.s .o (.s (.s .o .o) .o)) (.s (.s .o (.b (.l ⟨1, [], [], [5, 1, 0], [], []⟩ (.s (.s .o (.s .o .o)) (.s (.b (.s .o (.s .o (.s (.s .o .o) .o)))) .o))))) (.s .o .o)))))
def ann91 : Ann := (.s .o (.s .o .o))
def ann92 : Ann := (.s .o (.j ⟨1, [], [], [1, 2], [], []⟩ (.j ⟨2, [], [], [1, 2, 25], [], []⟩ .o (.s (.s .o .o) .o)) (.s (.s .o (.b (.l ⟨3, [], [], [5, 1, 2], [], []⟩ (.s (.s .o (.s .o .o)) (.s (.b (.s .o (.s (.s .o .o) .o))) .o))))) (.s .o .o))))
def ann93 : Ann := (.s .o (.s (.s .o (.b (.j ⟨1, [], [], [3, 4], [], []⟩ (.s .o (.s .o (.s .o (.s .o (.s .o (.s .o (.s .o (.s .o (.s .o (.s .o (.s .o (.s .o (.s .o (.s .o (.s .o (.s .o .o)))))))))))))))) (.s (.s .o .o) (.s .o (.s (.s .o .o) (.s .o (.s (.s .o .o) (.s .o (.s (.s .o .o) .o)))))))))) (.s .o .o)))
def ann94 : Ann := (.s .o (.s .o .o))
def ann95 : Ann := (.s .o (.s (.s .o (.s (.s .o .o) .o)) (.s (.s .o (.b (.l ⟨1, [], [], [3, 0], [], []⟩ (.s (.s .o (.s .o .o)) (.s (.b (.j ⟨2, [], [], [0, 3, 38], [], []⟩ .o (.s (.s .o .o) .o))) .o))))) (.s .o .o))))
def ann96 : Ann := (.s .o (.j ⟨1, [], [], [0], [], []⟩ (.j ⟨2, [], [], [0, 8], [], []⟩ .o (.s (.s .o .o) .o)) (.s (.j ⟨3, [], [], [0, 16], [], []⟩ .o (.s (.s .o .o) .o)) (.s .o .o))))
def ann97 : Ann := (.s .o (.s (.s .o (.s (.s .o .o) .o)) (.s .o .o)))
def ann98 : Ann := (.s .o (.s .o (.s (.s .o (.b (.l ⟨1, [], [], [4, 0, 3], [], []⟩ (.s (.s .o (.s .o .o)) (.s (.b .o) .o))))) (.s .o .o))))
def ann99 : Ann := (.s .o (.s .o (.s (.s .o (.b (.l ⟨1, [], [], [4, 0, 3], [], []⟩ (.s (.s .o (.s .o .o)) (.s (.b .o) .o))))) (.s .o .o))))
def ann100 : Ann := (.s .o (.s .o .o))
def ann101 : Ann := (.s .o (.s .o .o))
def ann102 : Ann := (.s .o (.s .o .o))
def ann103 : Ann := (.s .o (.s (.s .o (.b (.l ⟨1, [], [], [8, 0, 1, 7], [], []⟩ (.s .o (.s (.s .o .o) (.s (.b (.s .o (.s .o (.s (.s .o .o) .o)))) .o)))))) (.s .o .o)))
def ann104 : Ann := (.s .o (.s .o (.s (.s .o (.b (.l ⟨1, [], [], [11, 3, 9, 0, 10], [], []⟩ (.s .o (.s (.s .o .o) (.s (.b (.s .o (.s .o (.s .o (.s .o .o))))) .o)))))) (.s .o (.s (.s .o (.b (.l ⟨2, [], [], [27, 6, 25, 26], [], []⟩ (.s .o (.s (.s .o .o) (.s (.b (.s .o .o)) .o)))))) (.s .o .o))))))
def ann105 : Ann := (.s .o (.s (.f [0, 4, 1, 2, 3, 5, 6, 7, 8, 9, 10] 2 [1, 2, 3, 5, 6, 7, 8, 9] []) .o))
def ann106 : Ann := (.s .o (.s .o .o))
def ann107 : Ann := (.s .o (.s .o .o))
def ann108 : Ann := (.s .o (.s (.s .o (.s (.s .o .o) .o)) (.s .o (.j ⟨1, [], [], [1], [], []⟩ (.b (.j ⟨2, [], [], [1, 3, 11], [], []⟩ (.j ⟨3, [], [], [1, 3, 11], [], []⟩ .o (.s .o (.j ⟨4, [], [], [1, 3, 11], [], []⟩ .o (.s .o .o)))) (.s (.s .o .o) (.j ⟨5, [], [], [1, 3, 34], [], []⟩ (.j ⟨6, [], [], [1, 3, 34], [], []⟩ .o (.s .o (.j ⟨7, [], [], [1, 3, 34], [], []⟩ .o (.s .o (.j ⟨8, [], [], [1, 3, 34], [], []⟩ .o (.s .o .o)))))) (.s (.s .o .o) (.j ⟨9, [], [], [1, 69], [], []⟩ (.j ⟨10, [], [], [1, 69, 3], [], []⟩ .o (.s .o .o)) (.s (.s .o .o) .o))))))) (.s .o .o)))))
def ann109 : Ann := (.s .o (.s (.s .o (.s (.s .o .o) .o)) (.s .o .o)))
def ann110 : Ann := (.s .o (.j ⟨1, [], [], [2], [], []⟩ (.s .o (.b (.j ⟨2, [], [], [2, 3, 4], [], []⟩ (.s .o (.s .o (.s .o (.s .o (.s .o (.s .o (.s .o (.s .o (.s .o (.s .o (.s .o (.s .o (.s .o (.s .o (.s .o (.s .o .o)))))))))))))))) (.s (.s .o .o) (.s .o (.s (.s .o .o) (.s .o (.s (.s .o .o) (.s .o (.s (.s .o .o) .o)))))))))) (.s .o .o)))
def ann111 : Ann := (.s .o (.s (.b (.s .o (.s (.s .o .o) (.s .o (.s (.s .o .o) .o))))) (.s .o .o)))
def ann112 : Ann := (.s .o (.s (.s .o (.s (.s .o .o) .o)) (.s .o .o)))
def ann113 : Ann := (.s .o (.s (.s .o (.s (.s .o .o) .o)) (.s (.s .o (.b (.l ⟨1, [], [], [5, 1, 0], [], []⟩ (.s (.s .o (.s .o .o)) (.s (.b (.s (.f [0, 1, 4, 5, 2, 3, 6, 7, 8, 9] 4 [2, 3, 6, 7, 9] []) (.s (.s .o .o) .o))) .o))))) (.s .o .o))))
def ann114 : Ann := (.s .o (.s (.s .o (.s (.s .o .o) .o)) (.s (.s .o (.b (.l ⟨1, [], [], [5, 1, 0], [], []⟩ (.s (.s .o (.s .o .o)) (.s (.b (.s (.f [0, 1, 4, 5, 2, 3, 6, 7, 8, 9] 4 [2, 3, 6, 7, 9] []) (.s (.s .o .o) .o))) .o))))) (.s .o .o))))
def ann120 : Ann := (.s .o (.s .o (.s (.s .o (.s (.s .o .o) .o)) (.s .o (.s (.s .o (.s (.s .o .o) .o)) (.s .o .o))))))
def ann121 : Ann := (.s .o (.s (.s .o (.s (.s .o .o) .o)) (.s .o (.j ⟨1, [], [], [1, 2, 6, 5], [], []⟩ (.s .o (.b (.j ⟨2, [], [], [1, 2, 6, 5, 13, 14], [], []⟩ (.s .o (.s .o (.s .o (.s .o .o)))) (.s .o (.j ⟨3, [], [], [1, 2, 6, 5, 13, 18], [], []⟩ (.s .o (.s .o .o)) (.s .o (.s .o (.s .o (.s .o (.s (.s .o (.s .o (.s .o (.s (.s .o .o) .o)))) (.s .o (.s .o (.s .o .o))))))))))))) (.j ⟨4, [], [], [1, 2], [], []⟩ (.j ⟨5, [], [], [1, 2, 47], [], []⟩ .o (.s (.s .o .o) .o)) (.s .o (.s (.s .o (.b (.l ⟨6, [], [], [8, 7, 1, 2], [], []⟩ (.s (.s .o (.s .o .o)) (.s (.b (.s .o (.s (.s .o (.s (.s .o .o) .o)) (.s .o (.s .o (.s (.s .o .o) .o)))))) .o))))) (.s .o .o))))))))
def ann122 : Ann := (.s .o (.s .o (.s .o (.s .o (.s .o (.s .o (.s .o (.s .o .o))))))))
def ann123 : Ann := (.s .o (.s (.s .o (.b (.l ⟨1, [], [], [8, 0, 1, 7], [], []⟩ (.s .o (.s (.s .o .o) (.s (.b (.s .o (.s .o (.s (.s .o .o) .o)))) .o)))))) (.s .o .o)))
def ann124 : Ann := (.s .o (.s .o .o))
def ann125 : Ann := (.s .o (.j ⟨1, [], [], [3, 2], [], []⟩ (.j ⟨2, [], [], [3, 2, 25], [], []⟩ .o (.s (.s .o .o) .o)) (.s .o .o)))
def ann126 : Ann := (.s .o (.s (.s .o (.s .o .o)) (.j ⟨1, [(0, 3)], [], [0], [], []⟩ (.s .o (.s .o (.s .o .o))) (.s .o .o))))
def ann127 : Ann := (.s .o (.s (.s .o (.b (.l ⟨1, [], [], [8, 0, 1, 7], [], []⟩ (.s .o (.s (.s .o .o) (.s (.b (.s .o (.s .o (.s (.s .o .o) .o)))) .o)))))) (.s .o .o)))
def ann128 : Ann := (.s .o (.s .o .o))
def ann129 : Ann := (.s .o (.s .o .o))
def ann130 : Ann := (.s .o (.s .o .o))
def ann131 : Ann := (.s .o (.s .o .o))
def ann132 : Ann := (.s .o (.s (.s .o (.s (.s .o .o) .o)) (.s (.s .o (.s (.s .o .o) .o)) (.s (.s .o (.s (.s .o .o) .o)) (.s (.s .o (.s (.s .o .o) .o)) (.s (.s .o (.s (.s .o .o) .o)) (.s .o .o)))))))
def ann144 : Ann := (.s .o (.j ⟨1, [], [], [1, 2], [], []⟩ (.j ⟨2, [], [], [1, 2, 14], [], []⟩ .o (.s (.s .o .o) .o)) (.s .o (.s (.s .o (.b (.l ⟨3, [], [], [18, 1, 5, 16, 17], [], []⟩ (.s .o (.s (.s .o .o) (.s (.b (.s .o (.s .o (.s .o (.s (.s .o .o) .o))))) .o)))))) (.s .o .o)))))
def ann145 : Ann := (.s .o (.s .o .o))
def ann146 : Ann := (.s .o (.s .o .o))
def ann147 : Ann := (.s .o (.s .o .o))
def ann148 : Ann := (.s .o (.s (.s .o (.b (.l ⟨1, [], [], [8, 0, 1, 7], [], []⟩ (.s .o (.s (.s .o .o) (.s (.b (.s .o (.s .o (.s (.s .o .o) .o)))) .o)))))) (.s .o .o)))
def ann155 : Ann := (.s .o (.s .o (.j ⟨1, [], [], [1], [], []⟩ (.j ⟨2, [], [], [1, 25], [], []⟩ .o (.s (.s .o .o) .o)) (.s (.s .o (.b (.s .o (.s (.s .o .o) (.s .o (.s (.s .o .o) .o)))))) (.s .o .o)))))
def ann156 : Ann := (.s .o (.s (.s .o (.b (.l ⟨1, [], [], [8, 0, 1, 7], [], []⟩ (.s .o (.s (.s .o .o) (.s (.b (.s .o (.s .o (.s (.s .o .o) .o)))) .o)))))) (.s .o .o)))
def ann158 : Ann := (.s .o (.s (.s .o (.b (.j ⟨1, [], [], [3, 4], [], []⟩ (.s .o (.s .o (.s .o (.s .o (.s .o (.s .o .o)))))) (.s (.s .o .o) (.j ⟨2, [], [], [3, 9], [], []⟩ (.s .o (.s .o .o)) (.s (.s .o .o) (.s .o (.s (.s .o .o) (.s .o (.s (.s .o .o) .o)))))))))) (.s .o .o)))
noncomputable def I3 : FnI := ⟨Try.f3, Try.f3.body.getD .skip, [false], [], false, [], .m (.one (.bool)), [], [], [], ann3⟩
noncomputable def I5 : FnI := ⟨Try.f5, Try.f5.body.getD .skip, [false, false], [], false, [], .m (.one (.int .i64)), [], [], [], ann5⟩
noncomputable def I6 : FnI := ⟨Try.f6, Try.f6.body.getD .skip, [false], [], false, [], .m (.one (.bool)), [], [], [], ann6⟩
noncomputable def I7 : FnI := ⟨Try.f7, Try.f7.body.getD .skip, [false], [], false, [], .m (.agg [.sl 1, .sl 9, .sl 1]), [], [], [], ann7⟩
noncomputable def I8 : FnI := ⟨Try.f8, Try.f8.body.getD .skip, [false], [], false, [], .m (.one (.bool)), [], [], [], ann8⟩
noncomputable def I9 : FnI := ⟨Try.f9, Try.f9.body.getD .skip, [false, false], [], false, [], .m (.one (.bool)), [], [], [], ann9⟩
noncomputable def I14 : FnI := ⟨Try.f14, Try.f14.body.getD .skip, [false, false], [], false, [], .m (.one (.bool)), [], [], [], ann14⟩
noncomputable def I19 : FnI := ⟨Try.f19, Try.f19.body.getD .skip, [false, false], [], false, [], .m (.one (.int .i64)), [], [], [], ann19⟩
noncomputable def I20 : FnI := ⟨Try.f20, Try.f20.body.getD .skip, [false, false], [], false, [], .m (.one (.int .i64)), [], [], [], ann20⟩
noncomputable def I21 : FnI := ⟨Try.f21, Try.f21.body.getD .skip, [false, false], [], false, [], .m (.one (.int .i64)), [], [], [], ann21⟩
noncomputable def I22 : FnI := ⟨Try.f22, Try.f22.body.getD .skip, [false], [], false, [], .m (.one (.bool)), [], [], [], ann22⟩
noncomputable def I23 : FnI := ⟨Try.f23, Try.f23.body.getD .skip, [false], [], true, [], .m (.one (.own 1000)), [], [.row 1 false true], [], ann23⟩
noncomputable def I24 : FnI := ⟨Try.f24, Try.f24.body.getD .skip, [false], [], false, [], .m (.one (.sl 1)), [], [], [], ann24⟩
noncomputable def I25 : FnI := ⟨Try.f25, Try.f25.body.getD .skip, [false], [], false, [], .m (.one (.sl 9)), [], [], [], ann25⟩
noncomputable def I26 : FnI := ⟨Try.f26, Try.f26.body.getD .skip, [false], [], false, [], .m (.one (.sl 1)), [], [], [], ann26⟩
noncomputable def I27 : FnI := ⟨Try.f27, Try.f27.body.getD .skip, [false], [], false, [], .m (.one (.bool)), [], [], [], ann27⟩
noncomputable def I28 : FnI := ⟨Try.f28, Try.f28.body.getD .skip, [false], [], true, [], .m (.one (.own 1000)), [], [.row 1 false true], [], ann28⟩
noncomputable def I29 : FnI := ⟨Try.f29, Try.f29.body.getD .skip, [false, false], [], false, [], .m (.one (.bool)), [], [], [], ann29⟩
noncomputable def I30 : FnI := ⟨Try.f30, Try.f30.body.getD .skip, [false, false], [], false, [], .m (.one (.bool)), [], [], [], ann30⟩
noncomputable def I31 : FnI := ⟨Try.f31, Try.f31.body.getD .skip, [false, false], [], false, [], .m (.one (.int .i64)), [], [], [], ann31⟩
noncomputable def I32 : FnI := ⟨Try.f32, Try.f32.body.getD .skip, [false, false], [], false, [], .m (.one (.int .i64)), [], [], [], ann32⟩
noncomputable def I37 : FnI := ⟨Try.f37, Try.f37.body.getD .skip, [false], [], false, [], .m (.one (.sl 1)), [], [], [], ann37⟩
noncomputable def I38 : FnI := ⟨Try.f38, Try.f38.body.getD .skip, [false], [], false, [], .m (.agg [.int .i64, .int .i64, .sl 3]), [], [], [], ann38⟩
noncomputable def I43 : FnI := ⟨Try.f43, Try.f43.body.getD .skip, [false, false], [], false, [], .m (.one (.bool)), [], [], [], ann43⟩
noncomputable def I44 : FnI := ⟨Try.f44, Try.f44.body.getD .skip, [false, false], [], false, [], .m (.one (.bool)), [], [], [], ann44⟩
noncomputable def I51 : FnI := ⟨Try.f51, Try.f51.body.getD .skip, [false, false], [], false, [], .m (.one (.int .i64)), [], [], [], ann51⟩
noncomputable def I52 : FnI := ⟨Try.f52, Try.f52.body.getD .skip, [false, false], [], false, [], .m (.one (.int .i64)), [], [], [], ann52⟩
noncomputable def I53 : FnI := ⟨Try.f53, Try.f53.body.getD .skip, [false], [], false, [], .m (.one (.bool)), [], [], [], ann53⟩
noncomputable def I54 : FnI := ⟨Try.f54, Try.f54.body.getD .skip, [false, false, false], [], false, [], .m (.one (.bool)), [], [], [], ann54⟩
noncomputable def I55 : FnI := ⟨Try.f55, Try.f55.body.getD .skip, [false, false], [], false, [], .m (.agg [.int .i64, .int .i64, .sl 3]), [], [], [], ann55⟩
noncomputable def I56 : FnI := ⟨Try.f56, Try.f56.body.getD .skip, [false], [], false, [], .m (.one (.bool)), [], [], [], ann56⟩
noncomputable def I57 : FnI := ⟨Try.f57, Try.f57.body.getD .skip, [true, false], [(0, 0, 1)], true, [(0, 0, 1)], .m (.one (.own 1000)), [.row 1 false false], [.row 1 false true], [], ann57⟩
noncomputable def I58 : FnI := ⟨Try.f58, Try.f58.body.getD .skip, [true, false], [(0, 0, 1)], true, [], .m (.one (.own 0)), [.row 1 false true], [], [(0, 0, 0)], ann58⟩
noncomputable def I59 : FnI := ⟨Try.f59, Try.f59.body.getD .skip, [true, false], [(0, 0, 1)], true, [], .m (.one (.own 0)), [.row 1 false true], [], [(0, 0, 0)], ann59⟩
noncomputable def I60 : FnI := ⟨Try.f60, Try.f60.body.getD .skip, [true, false], [(0, 0, 1)], true, [], .m (.one (.own 0)), [.row 1 false true], [], [(0, 0, 0)], ann60⟩
noncomputable def I61 : FnI := ⟨Try.f61, Try.f61.body.getD .skip, [false], [], false, [], .m (.agg [.sl 1]), [], [], [], ann61⟩
noncomputable def I62 : FnI := ⟨Try.f62, Try.f62.body.getD .skip, [false], [], false, [], .m (.agg [.sl 3, .int .i64, .int .i64, .sl 3, .int .i64, .int .i64, .sl 3, .sl 3, .sl 5]), [], [], [], ann62⟩
noncomputable def I63 : FnI := ⟨Try.f63, Try.f63.body.getD .skip, [false], [], false, [], .m (.one (.bool)), [], [], [], ann63⟩
noncomputable def I64 : FnI := ⟨Try.f64, Try.f64.body.getD .skip, [false, false, false], [], false, [], .m (.one (.bool)), [], [], [], ann64⟩
noncomputable def I65 : FnI := ⟨Try.f65, Try.f65.body.getD .skip, [false, false, false], [], false, [], .m (.one (.bool)), [], [], [], ann65⟩
noncomputable def I66 : FnI := ⟨Try.f66, Try.f66.body.getD .skip, [false, false], [], false, [], .m (.one (.bool)), [], [], [], ann66⟩
noncomputable def I67 : FnI := ⟨Try.f67, Try.f67.body.getD .skip, [false, true], [], false, [], .m (.one (.bool)), [], [], [], ann67⟩
noncomputable def I68 : FnI := ⟨Try.f68, Try.f68.body.getD .skip, [false, false], [], false, [], .m (.one (.bool)), [], [], [], ann68⟩
noncomputable def I69 : FnI := ⟨Try.f69, Try.f69.body.getD .skip, [true, false], [(0, 0, 1)], true, [(0, 0, 1)], .m (.one (.own 1000)), [.row 1 false false], [.row 1 false true], [], ann69⟩
noncomputable def I70 : FnI := ⟨Try.f70, Try.f70.body.getD .skip, [true, false], [(0, 0, 1)], true, [], .m (.one (.own 0)), [.row 1 false true], [], [(0, 0, 0)], ann70⟩
noncomputable def I71 : FnI := ⟨Try.f71, Try.f71.body.getD .skip, [true, false], [(0, 0, 1)], true, [], .m (.one (.own 0)), [.row 1 false true], [], [(0, 0, 0)], ann71⟩
noncomputable def I72 : FnI := ⟨Try.f72, Try.f72.body.getD .skip, [true, false], [(0, 0, 1)], true, [], .m (.one (.own 0)), [.row 1 false true], [], [(0, 0, 0)], ann72⟩
noncomputable def I73 : FnI := ⟨Try.f73, Try.f73.body.getD .skip, [true, false], [(0, 0, 1)], true, [], .m (.one (.own 0)), [.row 1 false true], [], [(0, 0, 0)], ann73⟩
noncomputable def I74 : FnI := ⟨Try.f74, Try.f74.body.getD .skip, [false, false], [], false, [], .m (.one (.bool)), [], [], [], ann74⟩
noncomputable def I75 : FnI := ⟨Try.f75, Try.f75.body.getD .skip, [false, false], [], false, [], .m (.one (.bool)), [], [], [], ann75⟩
noncomputable def I76 : FnI := ⟨Try.f76, Try.f76.body.getD .skip, [false, false], [], false, [], .m (.one (.int .i64)), [], [], [], ann76⟩
noncomputable def I81 : FnI := ⟨Try.f81, Try.f81.body.getD .skip, [false], [], false, [], .m (.one (.sl 3)), [], [], [], ann81⟩
noncomputable def I86 : FnI := ⟨Try.f86, Try.f86.body.getD .skip, [false, false], [], false, [], .m (.one (.bool)), [], [], [], ann86⟩
noncomputable def I89 : FnI := ⟨Try.f89, Try.f89.body.getD .skip, [false, false], [], false, [], .m (.one (.int .i64)), [], [], [], ann89⟩
noncomputable def I90 : FnI := ⟨Try.f90, Try.f90.body.getD .skip, [false, false], [], false, [], .m (.one (.int .i64)), [], [], [], ann90⟩
noncomputable def I91 : FnI := ⟨Try.f91, Try.f91.body.getD .skip, [false], [], false, [], .m (.one (.bool)), [], [], [], ann91⟩
noncomputable def I92 : FnI := ⟨Try.f92, Try.f92.body.getD .skip, [false, false], [], false, [], .m (.one (.bool)), [], [], [], ann92⟩
noncomputable def I93 : FnI := ⟨Try.f93, Try.f93.body.getD .skip, [false], [], false, [], .m (.one (.int .i64)), [], [], [], ann93⟩
noncomputable def I94 : FnI := ⟨Try.f94, Try.f94.body.getD .skip, [false], [], false, [], .m (.one (.bool)), [], [], [], ann94⟩
noncomputable def I95 : FnI := ⟨Try.f95, Try.f95.body.getD .skip, [false], [], false, [], .m (.one (.bool)), [], [], [], ann95⟩
noncomputable def I96 : FnI := ⟨Try.f96, Try.f96.body.getD .skip, [false], [], false, [], .m (.one (.int .i64)), [], [], [], ann96⟩
noncomputable def I97 : FnI := ⟨Try.f97, Try.f97.body.getD .skip, [true, false], [(0, 0, 1)], true, [(0, 0, 1)], .m (.one (.own 1000)), [.row 1 false false], [.row 1 false true], [], ann97⟩
noncomputable def I98 : FnI := ⟨Try.f98, Try.f98.body.getD .skip, [false], [], false, [], .m (.one (.sl 1)), [], [], [], ann98⟩
noncomputable def I99 : FnI := ⟨Try.f99, Try.f99.body.getD .skip, [false], [], false, [], .m (.one (.sl 5)), [], [], [], ann99⟩
noncomputable def I100 : FnI := ⟨Try.f100, Try.f100.body.getD .skip, [false, false], [], false, [], .m (.one (.bool)), [], [], [], ann100⟩
noncomputable def I101 : FnI := ⟨Try.f101, Try.f101.body.getD .skip, [false, true], [], false, [], .m (.one (.bool)), [], [], [], ann101⟩
noncomputable def I102 : FnI := ⟨Try.f102, Try.f102.body.getD .skip, [false, false], [], false, [], .m (.one (.bool)), [], [], [], ann102⟩
noncomputable def I103 : FnI := ⟨Try.f103, Try.f103.body.getD .skip, [false, false], [], false, [], .m (.one (.int .i64)), [], [], [], ann103⟩
noncomputable def I104 : FnI := ⟨Try.f104, Try.f104.body.getD .skip, [false], [], false, [], .m (.one (.sl 3)), [], [], [], ann104⟩
noncomputable def I105 : FnI := ⟨Try.f105, Try.f105.body.getD .skip, [true], [], false, [], .m (.agg [.int .i64, .int .i64, .sl 3]), [], [], [], ann105⟩
noncomputable def I106 : FnI := ⟨Try.f106, Try.f106.body.getD .skip, [false, false], [], false, [], .m (.one (.bool)), [], [], [], ann106⟩
noncomputable def I107 : FnI := ⟨Try.f107, Try.f107.body.getD .skip, [false], [], false, [], .m (.one (.bool)), [], [], [], ann107⟩
noncomputable def I108 : FnI := ⟨Try.f108, Try.f108.body.getD .skip, [false], [], false, [], .m (.one (.bool)), [], [], [], ann108⟩
noncomputable def I109 : FnI := ⟨Try.f109, Try.f109.body.getD .skip, [true], [], true, [(0, 0, 1)], .m (.one (.own 1000)), [], [.row 1 false true], [], ann109⟩
noncomputable def I110 : FnI := ⟨Try.f110, Try.f110.body.getD .skip, [false], [], false, [], .m (.agg [.bool, .bool, .bool, .bool]), [], [], [], ann110⟩
noncomputable def I111 : FnI := ⟨Try.f111, Try.f111.body.getD .skip, [false], [], false, [], .m (.one (.int .i64)), [], [], [], ann111⟩
noncomputable def I112 : FnI := ⟨Try.f112, Try.f112.body.getD .skip, [true, false], [(0, 0, 1)], true, [(0, 0, 1)], .m (.one (.own 1000)), [.row 1 false false], [.row 1 false true], [], ann112⟩
noncomputable def I113 : FnI := ⟨Try.f113, Try.f113.body.getD .skip, [false, false], [], false, [], .m (.one (.bool)), [], [], [], ann113⟩
noncomputable def I114 : FnI := ⟨Try.f114, Try.f114.body.getD .skip, [false, false], [], false, [], .m (.one (.bool)), [], [], [], ann114⟩
noncomputable def I120 : FnI := ⟨Try.f120, Try.f120.body.getD .skip, [false, false], [], false, [], .m (.one (.int .i64)), [], [], [], ann120⟩
noncomputable def I121 : FnI := ⟨Try.f121, Try.f121.body.getD .skip, [false, false], [], false, [], .m (.one (.int .i64)), [], [], [], ann121⟩
noncomputable def I122 : FnI := ⟨Try.f122, Try.f122.body.getD .skip, [false], [], false, [], .m (.agg [.int .i64, .int .i64, .int .i64, .sl 1, .sl 1]), [], [], [], ann122⟩
noncomputable def I123 : FnI := ⟨Try.f123, Try.f123.body.getD .skip, [false, false], [], false, [], .m (.one (.int .i64)), [], [], [], ann123⟩
noncomputable def I124 : FnI := ⟨Try.f124, Try.f124.body.getD .skip, [false], [], false, [], .m (.one (.bool)), [], [], [], ann124⟩
noncomputable def I125 : FnI := ⟨Try.f125, Try.f125.body.getD .skip, [false, false], [], false, [], .m (.one (.bool)), [], [], [], ann125⟩
noncomputable def I126 : FnI := ⟨Try.f126, Try.f126.body.getD .skip, [true, false], [], true, [(0, 0, 3)], .m (.one (.own 1000)), [], [.row 3 false true], [], ann126⟩
noncomputable def I127 : FnI := ⟨Try.f127, Try.f127.body.getD .skip, [false, false], [], false, [], .m (.one (.int .i64)), [], [], [], ann127⟩
noncomputable def I128 : FnI := ⟨Try.f128, Try.f128.body.getD .skip, [false], [], false, [], .m (.one (.bool)), [], [], [], ann128⟩
noncomputable def I129 : FnI := ⟨Try.f129, Try.f129.body.getD .skip, [false], [], false, [], .m (.one (.bool)), [], [], [], ann129⟩
noncomputable def I130 : FnI := ⟨Try.f130, Try.f130.body.getD .skip, [false, false], [], false, [], .m (.one (.bool)), [], [], [], ann130⟩
noncomputable def I131 : FnI := ⟨Try.f131, Try.f131.body.getD .skip, [false], [], false, [], .m (.one (.bool)), [], [], [], ann131⟩
noncomputable def I132 : FnI := ⟨Try.f132, Try.f132.body.getD .skip, [false, false], [], false, [], .m (.one (.bool)), [], [], [], ann132⟩
noncomputable def I144 : FnI := ⟨Try.f144, Try.f144.body.getD .skip, [false, false], [], false, [], .m (.one (.int .i64)), [], [], [], ann144⟩
noncomputable def I145 : FnI := ⟨Try.f145, Try.f145.body.getD .skip, [false, true], [], false, [], .m (.one (.bool)), [], [], [], ann145⟩
noncomputable def I146 : FnI := ⟨Try.f146, Try.f146.body.getD .skip, [false, false], [], false, [], .m (.one (.bool)), [], [], [], ann146⟩
noncomputable def I147 : FnI := ⟨Try.f147, Try.f147.body.getD .skip, [false], [], false, [], .m (.one (.bool)), [], [], [], ann147⟩
noncomputable def I148 : FnI := ⟨Try.f148, Try.f148.body.getD .skip, [false, false], [], false, [], .m (.one (.int .i64)), [], [], [], ann148⟩
noncomputable def I155 : FnI := ⟨Try.f155, Try.f155.body.getD .skip, [false], [], false, [], .m (.one (.bool)), [], [], [], ann155⟩
noncomputable def I156 : FnI := ⟨Try.f156, Try.f156.body.getD .skip, [false, false], [], false, [], .m (.one (.int .i64)), [], [], [], ann156⟩
noncomputable def I158 : FnI := ⟨Try.f158, Try.f158.body.getD .skip, [false], [], false, [], .m (.one (.int .i64)), [], [], [], ann158⟩
noncomputable def fnsL : List (Nat × FnI) := [(3, I3), (5, I5), (6, I6), (7, I7), (8, I8), (9, I9), (14, I14), (19, I19), (20, I20), (21, I21), (22, I22), (23, I23), (24, I24), (25, I25), (26, I26), (27, I27), (28, I28), (29, I29), (30, I30), (31, I31), (32, I32), (37, I37), (38, I38), (43, I43), (44, I44), (51, I51), (52, I52), (53, I53), (54, I54), (55, I55), (56, I56), (57, I57), (58, I58), (59, I59), (60, I60), (61, I61), (62, I62), (63, I63), (64, I64), (65, I65), (66, I66), (67, I67), (68, I68), (69, I69), (70, I70), (71, I71), (72, I72), (73, I73), (74, I74), (75, I75), (76, I76), (81, I81), (86, I86), (89, I89), (90, I90), (91, I91), (92, I92), (93, I93), (94, I94), (95, I95), (96, I96), (97, I97), (98, I98), (99, I99), (100, I100), (101, I101), (102, I102), (103, I103), (104, I104), (105, I105), (106, I106), (107, I107), (108, I108), (109, I109), (110, I110), (111, I111), (112, I112), (113, I113), (114, I114), (120, I120), (121, I121), (122, I122), (123, I123), (124, I124), (125, I125), (126, I126), (127, I127), (128, I128), (129, I129), (130, I130), (131, I131), (132, I132), (144, I144), (145, I145), (146, I146), (147, I147), (148, I148), (155, I155), (156, I156), (158, I158)]
noncomputable def cx : Cx := ⟨tyL, fnsL⟩
noncomputable def laws_FnExactProgramOk (x0 : T_Program) : Res := evF cx 3 [(.agg (LS.encs sh_Program x0))] []
noncomputable def laws_szProgram (x0 : T_Program) (x1 : Int) : Res := evF cx 5 [(.agg (LS.encs sh_Program x0)), (.d (.int .i64 x1))] []
noncomputable def laws_toProgram (x0 : T_Program) : Res := evF cx 7 [(.agg (LS.encs sh_Program x0))] []
noncomputable def spec_ProgramOk (x0 : T_Program) : Res := evF cx 6 [(.agg (LS.encs sh_Program x0))] []
noncomputable def impl_ProgramOk (x0 : T_Program) : Res := evF cx 8 [(.agg (LS.encs sh_Program x0))] []
noncomputable def laws_eqProgram (x0 : T_Program) (x1 : T_Program) : Res := evF cx 9 [(.agg (LS.encs sh_Program x0)), (.agg (LS.encs sh_Program x1))] []
noncomputable def laws_szLayoutS (x0 : Sl) (x1 : Int) : Res := evF cx 19 [(.d (.sl false 1 x0.1 x0.2)), (.d (.int .i64 x1))] []
noncomputable def laws_szBlockS (x0 : Sl) (x1 : Int) : Res := evF cx 20 [(.d (.sl false 9 x0.1 x0.2)), (.d (.int .i64 x1))] []
noncomputable def laws_szIntS (x0 : Sl) (x1 : Int) : Res := evF cx 21 [(.d (.sl false 1 x0.1 x0.2)), (.d (.int .i64 x1))] []
noncomputable def laws_toLayoutS (x0 : Sl) : Res := evF cx 24 [(.d (.sl false 1 x0.1 x0.2))] []
noncomputable def laws_toBlockS (x0 : Sl) : Res := evF cx 25 [(.d (.sl false 9 x0.1 x0.2))] []
noncomputable def laws_toIntS (x0 : Sl) : Res := evF cx 26 [(.d (.sl false 1 x0.1 x0.2))] []
noncomputable def spec_l8programOk (x0 : T_Program) : Res := evF cx 22 [(.agg (LS.encs sh_Program x0))] []
noncomputable def spec_l8bytes (x0 : T_Program) : Res := evF cx 23 [(.agg (LS.encs sh_Program x0))] []
noncomputable def impl_formOk (x0 : T_Program) : Res := evF cx 27 [(.agg (LS.encs sh_Program x0))] []
noncomputable def impl_codeBytes (x0 : T_Program) : Res := evF cx 28 [(.agg (LS.encs sh_Program x0))] []
noncomputable def laws_eqLayoutS (x0 : Sl) (x1 : Sl) : Res := evF cx 29 [(.d (.sl false 1 x0.1 x0.2)), (.d (.sl false 1 x1.1 x1.2))] []
noncomputable def laws_eqBlockS (x0 : Sl) (x1 : Sl) : Res := evF cx 30 [(.d (.sl false 9 x0.1 x0.2)), (.d (.sl false 9 x1.1 x1.2))] []
noncomputable def laws_eqIntS (x0 : Sl) (x1 : Sl) : Res := evF cx 14 [(.d (.sl false 1 x0.1 x0.2)), (.d (.sl false 1 x1.1 x1.2))] []
noncomputable def laws_szLayout (x0 : Sl) (x1 : Int) : Res := evF cx 51 [(.agg [(.d (.sl false 1 x0.1 x0.2))]), (.d (.int .i64 x1))] []
noncomputable def laws_szBlock (x0 : T_Block) (x1 : Int) : Res := evF cx 52 [(.agg (LS.encs sh_Block x0)), (.d (.int .i64 x1))] []
noncomputable def laws_toLayout (x0 : Sl) : Res := evF cx 61 [(.agg [(.d (.sl false 1 x0.1 x0.2))])] []
noncomputable def laws_toBlock (x0 : T_Block) : Res := evF cx 62 [(.agg (LS.encs sh_Block x0))] []
noncomputable def spec_l7layoutsOk (x0 : Sl) : Res := evF cx 53 [(.d (.sl false 1 x0.1 x0.2))] []
noncomputable def spec_l8tysOk (x0 : Sl) (x1 : Int) (x2 : Int) : Res := evF cx 54 [(.d (.sl false 3 x0.1 x0.2)), (.d (.int .i64 x1)), (.d (.int .i64 x2))] []
noncomputable def spec_l6fun (x0 : T_Ty) (x1 : T_Ty) : Res := evF cx 55 [(.agg (LS.encs sh_Ty x0)), (.agg (LS.encs sh_Ty x1))] []
noncomputable def spec_InsOk (x0 : T_Ins) : Res := evF cx 56 [(.agg (LS.encs sh_Ins x0))] []
noncomputable def spec_PutNum_o (x0 : Int) (x1 : Sl) : Res := evF cx 57 [(.own 0), (.d (.int .i64 x0))] [(.row 1 x1.1 false false x1.2)]
noncomputable def spec_l8tys_o (x0 : Sl) (x1 : Sl) : Res := evF cx 58 [(.own 0), (.d (.sl false 3 x0.1 x0.2))] [(.row 1 x1.1 false false x1.2)]
noncomputable def spec_l3bytes_o (x0 : T_Ty) (x1 : Sl) : Res := evF cx 59 [(.own 0), (.agg (LS.encs sh_Ty x0))] [(.row 1 x1.1 false false x1.2)]
noncomputable def spec_l8ins_o (x0 : T_Ins) (x1 : Sl) : Res := evF cx 60 [(.own 0), (.agg (LS.encs sh_Ins x0))] [(.row 1 x1.1 false false x1.2)]
noncomputable def impl_layoutsOk (x0 : Sl) : Res := evF cx 63 [(.d (.sl false 1 x0.1 x0.2))] []
noncomputable def impl_within (x0 : Int) (x1 : Int) (x2 : Int) : Res := evF cx 64 [(.d (.int .i64 x0)), (.d (.int .i64 x1)), (.d (.int .i64 x2))] []
noncomputable def impl_ascending (x0 : Sl) (x1 : Int) (x2 : Int) : Res := evF cx 65 [(.d (.sl false 1 x0.1 x0.2)), (.d (.int .i64 x1)), (.d (.int .i64 x2))] []
noncomputable def slices_ContainsFunc_impl_Block_impl_Block_Fimpl_formOk_1c (x0 : Sl) (x1 : T_Program) : Res := evF cx 66 [(.d (.sl false 9 x0.1 x0.2)), (.fn 67 [(.ptr 0 0)])] [(.box (LS.encs sh_Program x1))]
noncomputable def impl_PutNum_o (x0 : Int) (x1 : Sl) : Res := evF cx 69 [(.own 0), (.d (.int .i64 x0))] [(.row 1 x1.1 false false x1.2)]
noncomputable def impl_putNums_o (x0 : Sl) (x1 : Sl) : Res := evF cx 71 [(.own 0), (.d (.sl false 1 x0.1 x0.2))] [(.row 1 x1.1 false false x1.2)]
noncomputable def impl_putTys_o (x0 : Sl) (x1 : Sl) : Res := evF cx 70 [(.own 0), (.d (.sl false 3 x0.1 x0.2))] [(.row 1 x1.1 false false x1.2)]
noncomputable def impl_putTy_o (x0 : T_Ty) (x1 : Sl) : Res := evF cx 72 [(.own 0), (.agg (LS.encs sh_Ty x0))] [(.row 1 x1.1 false false x1.2)]
noncomputable def impl_putIns_o (x0 : T_Ins) (x1 : Sl) : Res := evF cx 73 [(.own 0), (.agg (LS.encs sh_Ins x0))] [(.row 1 x1.1 false false x1.2)]
noncomputable def laws_eqLayout (x0 : Sl) (x1 : Sl) : Res := evF cx 74 [(.agg [(.d (.sl false 1 x0.1 x0.2))]), (.agg [(.d (.sl false 1 x1.1 x1.2))])] []
noncomputable def laws_eqBlock (x0 : T_Block) (x1 : T_Block) : Res := evF cx 75 [(.agg (LS.encs sh_Block x0)), (.agg (LS.encs sh_Block x1))] []
noncomputable def laws_szTySS (x0 : Sl) (x1 : Int) : Res := evF cx 89 [(.d (.sl false 1 x0.1 x0.2)), (.d (.int .i64 x1))] []
noncomputable def laws_szTyS (x0 : Sl) (x1 : Int) : Res := evF cx 76 [(.d (.sl false 3 x0.1 x0.2)), (.d (.int .i64 x1))] []
noncomputable def laws_szTy (x0 : T_Ty) (x1 : Int) : Res := evF cx 32 [(.agg (LS.encs sh_Ty x0)), (.d (.int .i64 x1))] []
noncomputable def laws_szInsS (x0 : Sl) (x1 : Int) : Res := evF cx 90 [(.d (.sl false 5 x0.1 x0.2)), (.d (.int .i64 x1))] []
noncomputable def laws_toTySS (x0 : Sl) : Res := evF cx 98 [(.d (.sl false 1 x0.1 x0.2))] []
noncomputable def laws_toTyS (x0 : Sl) : Res := evF cx 81 [(.d (.sl false 3 x0.1 x0.2))] []
noncomputable def laws_toTy (x0 : T_Ty) : Res := evF cx 38 [(.agg (LS.encs sh_Ty x0))] []
noncomputable def laws_toInsS (x0 : Sl) : Res := evF cx 99 [(.d (.sl false 5 x0.1 x0.2))] []
noncomputable def spec_TyOk (x0 : T_Ty) : Res := evF cx 91 [(.agg (LS.encs sh_Ty x0))] []
noncomputable def spec_l7closed (x0 : T_Ty) (x1 : Int) : Res := evF cx 92 [(.agg (LS.encs sh_Ty x0)), (.d (.int .i64 x1))] []
noncomputable def spec_l8parts (x0 : Int) : Res := evF cx 93 [(.d (.int .i64 x0))] []
noncomputable def spec_l5intOk (x0 : Int) : Res := evF cx 94 [(.d (.int .i64 x0))] []
noncomputable def spec_l5lit (x0 : Sl) : Res := evF cx 95 [(.d (.sl false 1 x0.1 x0.2))] []
noncomputable def spec_Fold (x0 : Int) : Res := evF cx 96 [(.d (.int .i64 x0))] []
noncomputable def spec_PutText_o (x0 : Sl) (x1 : Sl) : Res := evF cx 97 [(.own 0), (.d (.sl false 1 x0.1 x0.2))] [(.row 1 x1.1 false false x1.2)]
noncomputable def slices_ContainsFunc_impl_Ty_impl_Ty_Fimpl_layoutsOk_1c (x0 : Sl) (x1 : Sl) : Res := evF cx 100 [(.d (.sl false 3 x0.1 x0.2)), (.fn 101 [(.ptr 0 0)])] [(.box [(.d (.sl false 1 x1.1 x1.2))])]
noncomputable def slices_IndexFunc_impl_Block_impl_Block_Fimpl_formOk_1c (x0 : Sl) (x1 : T_Program) : Res := evF cx 103 [(.d (.sl false 9 x0.1 x0.2)), (.fn 67 [(.ptr 0 0)])] [(.box (LS.encs sh_Program x1))]
noncomputable def slices_Clone_byte_byte_o (x0 : Sl) : Res := evF cx 109 [(.own 0)] [(.row 1 x0.1 false false x0.2)]
noncomputable def impl_partsOfIns (x0 : Int) : Res := evF cx 110 [(.d (.int .i64 x0))] []
noncomputable def impl_Fold (x0 : Int) : Res := evF cx 111 [(.d (.int .i64 x0))] []
noncomputable def impl_PutText_o (x0 : Sl) (x1 : Sl) : Res := evF cx 112 [(.own 0), (.d (.sl false 1 x0.1 x0.2))] [(.row 1 x1.1 false false x1.2)]
noncomputable def laws_eqTySS (x0 : Sl) (x1 : Sl) : Res := evF cx 113 [(.d (.sl false 1 x0.1 x0.2)), (.d (.sl false 1 x1.1 x1.2))] []
noncomputable def laws_eqTyS (x0 : Sl) (x1 : Sl) : Res := evF cx 86 [(.d (.sl false 3 x0.1 x0.2)), (.d (.sl false 3 x1.1 x1.2))] []
noncomputable def laws_eqTy (x0 : T_Ty) (x1 : T_Ty) : Res := evF cx 44 [(.agg (LS.encs sh_Ty x0)), (.agg (LS.encs sh_Ty x1))] []
noncomputable def laws_eqInsS (x0 : Sl) (x1 : Sl) : Res := evF cx 114 [(.d (.sl false 5 x0.1 x0.2)), (.d (.sl false 5 x1.1 x1.2))] []
noncomputable def laws_szIns (x0 : T_Ins) (x1 : Int) : Res := evF cx 120 [(.agg (LS.encs sh_Ins x0)), (.d (.int .i64 x1))] []
noncomputable def laws_toIns (x0 : T_Ins) : Res := evF cx 122 [(.agg (LS.encs sh_Ins x0))] []
noncomputable def spec_l3ok (x0 : T_Ty) (x1 : Int) : Res := evF cx 121 [(.agg (LS.encs sh_Ty x0)), (.d (.int .i64 x1))] []
noncomputable def slices_IndexFunc_impl_Ty_impl_Ty_Fimpl_layoutsOk_1c (x0 : Sl) (x1 : Sl) : Res := evF cx 123 [(.d (.sl false 3 x0.1 x0.2)), (.fn 101 [(.ptr 0 0)])] [(.box [(.d (.sl false 1 x1.1 x1.2))])]
noncomputable def impl_formOk_1 (x0 : T_Block) (x1 : T_Program) : Res := evF cx 67 [(.agg (LS.encs sh_Block x0)), (.ptr 0 0)] [(.box (LS.encs sh_Program x1))]
noncomputable def laws_eqIns (x0 : T_Ins) (x1 : T_Ins) : Res := evF cx 132 [(.agg (LS.encs sh_Ins x0)), (.agg (LS.encs sh_Ins x1))] []
noncomputable def laws_szByteS (x0 : Sl) (x1 : Int) : Res := evF cx 31 [(.d (.sl false 1 x0.1 x0.2)), (.d (.int .i64 x1))] []
noncomputable def laws_toByteS (x0 : Sl) : Res := evF cx 37 [(.d (.sl false 1 x0.1 x0.2))] []
noncomputable def impl_layoutsOk_1 (x0 : T_Ty) (x1 : Sl) : Res := evF cx 101 [(.agg (LS.encs sh_Ty x0)), (.ptr 0 0)] [(.box [(.d (.sl false 1 x1.1 x1.2))])]
noncomputable def impl_blockOk (x0 : T_Block) (x1 : Sl) : Res := evF cx 68 [(.agg (LS.encs sh_Block x0)), (.d (.sl false 1 x1.1 x1.2))] []
noncomputable def laws_eqByteS (x0 : Sl) (x1 : Sl) : Res := evF cx 43 [(.d (.sl false 1 x0.1 x0.2)), (.d (.sl false 1 x1.1 x1.2))] []
noncomputable def impl_lowTyOk (x0 : T_Ty) (x1 : Sl) : Res := evF cx 102 [(.agg (LS.encs sh_Ty x0)), (.d (.sl false 1 x1.1 x1.2))] []
noncomputable def impl_Block_fun (x0 : T_Block) : Res := evF cx 105 [(.ptr 0 0)] [(.box (LS.encs sh_Block x0))]
noncomputable def slices_Concat_impl_Ty_impl_Ty (x0 : Sl) : Res := evF cx 104 [(.d (.sl false 1 x0.1 x0.2))] []
noncomputable def slices_ContainsFunc_impl_Ins_impl_Ins_Fimpl_blockOk_1 (x0 : Sl) : Res := evF cx 106 [(.d (.sl false 5 x0.1 x0.2)), (.fn 107 [])] []
noncomputable def impl_TyOk (x0 : T_Ty) : Res := evF cx 124 [(.agg (LS.encs sh_Ty x0))] []
noncomputable def impl_lowIn (x0 : T_Ty) (x1 : Sl) : Res := evF cx 125 [(.agg (LS.encs sh_Ty x0)), (.d (.sl false 1 x1.1 x1.2))] []
noncomputable def slices_Grow_impl_Ty_impl_Ty_n (x0 : Int) : Res := evF cx 126 [(.d (.sl true 3 0 [])), (.d (.int .i64 x0))] []
noncomputable def slices_IndexFunc_impl_Ins_impl_Ins_Fimpl_blockOk_1 (x0 : Sl) : Res := evF cx 127 [(.d (.sl false 5 x0.1 x0.2)), (.fn 107 [])] []
noncomputable def impl_measure (x0 : T_Ty) (x1 : Int) : Res := evF cx 144 [(.agg (LS.encs sh_Ty x0)), (.d (.int .i64 x1))] []
noncomputable def slices_ContainsFunc_impl_Ty_impl_Ty_Fimpl_lowIn_1c (x0 : Sl) (x1 : Sl) : Res := evF cx 100 [(.d (.sl false 3 x0.1 x0.2)), (.fn 145 [(.ptr 0 0)])] [(.box [(.d (.sl false 1 x1.1 x1.2))])]
noncomputable def impl_blockOk_1 (x0 : T_Ins) : Res := evF cx 107 [(.agg (LS.encs sh_Ins x0))] []
noncomputable def impl_headOk (x0 : T_Ty) : Res := evF cx 155 [(.agg (LS.encs sh_Ty x0))] []
noncomputable def slices_IndexFunc_impl_Ty_impl_Ty_Fimpl_lowIn_1c (x0 : Sl) (x1 : Sl) : Res := evF cx 123 [(.d (.sl false 3 x0.1 x0.2)), (.fn 145 [(.ptr 0 0)])] [(.box [(.d (.sl false 1 x1.1 x1.2))])]
noncomputable def impl_InsOk (x0 : T_Ins) : Res := evF cx 108 [(.agg (LS.encs sh_Ins x0))] []
noncomputable def impl_argsOf (x0 : Int) : Res := evF cx 158 [(.d (.int .i64 x0))] []
noncomputable def impl_lowIn_1 (x0 : T_Ty) (x1 : Sl) : Res := evF cx 145 [(.agg (LS.encs sh_Ty x0)), (.ptr 0 0)] [(.box [(.d (.sl false 1 x1.1 x1.2))])]
noncomputable def impl_wholeOk (x0 : Int) : Res := evF cx 128 [(.d (.int .i64 x0))] []
noncomputable def impl_litOk (x0 : Sl) : Res := evF cx 129 [(.d (.sl false 1 x0.1 x0.2))] []
noncomputable def slices_ContainsFunc_int_int_Fimpl_InsOk_1 (x0 : Sl) : Res := evF cx 130 [(.d (.sl false 1 x0.1 x0.2)), (.fn 131 [])] []
noncomputable def slices_ContainsFunc_byte_byte_Fimpl_litOk_1 (x0 : Sl) : Res := evF cx 146 [(.d (.sl false 1 x0.1 x0.2)), (.fn 147 [])] []
noncomputable def slices_IndexFunc_int_int_Fimpl_InsOk_1 (x0 : Sl) : Res := evF cx 148 [(.d (.sl false 1 x0.1 x0.2)), (.fn 131 [])] []
noncomputable def slices_IndexFunc_byte_byte_Fimpl_litOk_1 (x0 : Sl) : Res := evF cx 156 [(.d (.sl false 1 x0.1 x0.2)), (.fn 147 [])] []
noncomputable def impl_InsOk_1 (x0 : Int) : Res := evF cx 131 [(.d (.int .i64 x0))] []
noncomputable def impl_litOk_1 (x0 : Int) : Res := evF cx 147 [(.d (.int .u8 x0))] []
theorem laws_FnExactProgramOk_eq (x0 : T_Program) : laws_FnExactProgramOk x0 =
  ocall (.m (.one (.int .i64))) [] (laws_szProgram x0 (1048576 : Int)) fun (r0 : Int) (m1 : Unit) =>
  oite (decide (r0 < (0 : Int)))
    (some ((.d (.bool true)), []))
    (ocall (.m (.agg sh_Program)) [] (laws_toProgram x0) fun (r2 : T_Program) (m3 : Unit) =>
    ocall (.m (.one .bool)) [] (spec_ProgramOk r2) fun (r4 : Bool) (m5 : Unit) =>
    ocall (.m (.agg sh_Program)) [] (laws_toProgram x0) fun (r6 : T_Program) (m7 : Unit) =>
    ocall (.m (.one .bool)) [] (impl_ProgramOk r6) fun (r8 : Bool) (m9 : Unit) =>
    oite (!(r8 == r4))
      (some ((.d (.bool false)), []))
      (ocall (.m (.agg sh_Program)) [] (laws_toProgram x0) fun (r10 : T_Program) (m11 : Unit) =>
      osame (α := List V) [(.agg [(.d (.sl false 1 r6.1.1 r6.1.2)), (.d (.sl false 9 r6.2.1.1 r6.2.1.2)), (.d (.sl false 1 r6.2.2.1.1 r6.2.2.1.2))])] [(.agg [(.d (.sl false 1 r6.1.1 r6.1.2)), (.d (.sl false 9 r6.2.1.1 r6.2.1.2)), (.d (.sl false 1 r6.2.2.1.1 r6.2.2.1.2))])] (
      ocall (.m (.one .bool)) [] (laws_eqProgram r6 r10) fun (r12 : Bool) (m13 : Unit) =>
      oite (!r12)
        (some ((.d (.bool false)), []))
        (some ((.d (.bool true)), []))))) := (evF_eq ..).trans (by kernel_rfl)
theorem laws_szProgram_eq (x0 : T_Program) (x1 : Int) : laws_szProgram x0 x1 =
  ocall (.m (.one (.int .i64))) [] (laws_szLayoutS x0.1 x1) fun (r0 : Int) (m1 : Unit) =>
  oite (decide (r0 < (0 : Int)))
    (some ((.d (.int .i64 (-1 : Int))), []))
    (ocall (.m (.one (.int .i64))) [] (laws_szBlockS x0.2.1 r0) fun (r2 : Int) (m3 : Unit) =>
    oite (decide (r2 < (0 : Int)))
      (some ((.d (.int .i64 (-1 : Int))), []))
      (ocall (.m (.one (.int .i64))) [] (laws_szIntS x0.2.2.1 r2) fun (r4 : Int) (m5 : Unit) =>
      oite (decide (r4 < (0 : Int)))
        (some ((.d (.int .i64 (-1 : Int))), []))
        (some ((.d (.int .i64 r4)), [])))) := (evF_eq ..).trans (by kernel_rfl)
theorem laws_toProgram_eq (x0 : T_Program) : laws_toProgram x0 =
  ocall (.m (.one (.sl 1))) [] (laws_toLayoutS x0.1) fun (r0 : Sl) (m1 : Unit) =>
  ocall (.m (.one (.sl 9))) [] (laws_toBlockS x0.2.1) fun (r2 : Sl) (m3 : Unit) =>
  ocall (.m (.one (.sl 1))) [] (laws_toIntS x0.2.2.1) fun (r4 : Sl) (m5 : Unit) =>
  some ((.agg (LS.encs sh_Program (r0, r2, r4, ()))), []) := (evF_eq ..).trans (by kernel_rfl)
theorem spec_ProgramOk_eq (x0 : T_Program) : spec_ProgramOk x0 =
  ocall (.m (.one .bool)) [] (spec_l8programOk x0) fun (r0 : Bool) (m1 : Unit) =>
  oite r0
    (ocall (.m (.one (.own 0))) [(.row 1 false true)] (spec_l8bytes x0) fun (r2 : Unit) (m3 : (Sl × Unit)) =>
    some ((.d (.bool (decide (((m3.1.1 : Nat) : Int) ≤ (30000 : Int))))), []))
    (some ((.d (.bool false)), [])) := (evF_eq ..).trans (by kernel_rfl)
theorem impl_ProgramOk_eq (x0 : T_Program) : impl_ProgramOk x0 =
  ocall (.m (.one .bool)) [] (impl_formOk x0) fun (r0 : Bool) (m1 : Unit) =>
  oite r0
    (ocall (.m (.one (.own 0))) [(.row 1 false true)] (impl_codeBytes x0) fun (r2 : Unit) (m3 : (Sl × Unit)) =>
    some ((.d (.bool (decide (((m3.1.1 : Nat) : Int) ≤ (30000 : Int))))), []))
    (some ((.d (.bool false)), [])) := (evF_eq ..).trans (by kernel_rfl)
theorem laws_eqProgram_eq (x0 : T_Program) (x1 : T_Program) : laws_eqProgram x0 x1 =
  ocall (.m (.one .bool)) [] (laws_eqLayoutS x0.1 x1.1) fun (r0 : Bool) (m1 : Unit) =>
  oite (!r0)
    (some ((.d (.bool false)), []))
    (ocall (.m (.one .bool)) [] (laws_eqBlockS x0.2.1 x1.2.1) fun (r2 : Bool) (m3 : Unit) =>
    oite (!r2)
      (some ((.d (.bool false)), []))
      (ocall (.m (.one .bool)) [] (laws_eqIntS x0.2.2.1 x1.2.2.1) fun (r4 : Bool) (m5 : Unit) =>
      oite (!r4)
        (some ((.d (.bool false)), []))
        (some ((.d (.bool true)), [])))) := (evF_eq ..).trans (by kernel_rfl)
noncomputable def laws_szLayoutS_j1 (x0 : Int) (x1 : Int) (x2 : Sl) : Res := (fun (p : Env × Mem) => evI cx 19 0 1 p.1 p.2) ([(5, (.d (.int .i64 x0))), (1, (.d (.int .i64 x1))), (0, (.d (.sl false 1 x2.1 x2.2)))], [])
theorem laws_szLayoutS_eq (x0 : Sl) (x1 : Int) : laws_szLayoutS x0 x1 =
  oite (decide ((w64 (x1 - ((x0.1 : Nat) : Int))) < (0 : Int)))
    (some ((.d (.int .i64 (-1 : Int))), []))
    (laws_szLayoutS_j1 (0 : Int) (w64 (x1 - ((x0.1 : Nat) : Int))) x0) := (evF_eq ..).trans (by kernel_rfl)
-- a loop's head
theorem laws_szLayoutS_j1_eq (x0 : Int) (x1 : Int) (x2 : Sl) : laws_szLayoutS_j1 x0 x1 x2 =
  oite (decide (x0 < ((x2.1 : Nat) : Int)))
    (oat [(.sl 1)] x2.1 x2.2 x0 fun (t0 : (Sl × Unit)) =>
    ocall (.m (.one (.int .i64))) [] (laws_szLayout t0.1 x1) fun (r1 : Int) (m2 : Unit) =>
    oite (decide (r1 < (0 : Int)))
      (some ((.d (.int .i64 (-1 : Int))), []))
      (laws_szLayoutS_j1 (w64 (x0 + (1 : Int))) r1 x2))
    (some ((.d (.int .i64 x1)), [])) := (evI_eq ..).trans (by kernel_rfl)
noncomputable def laws_szBlockS_j1 (x0 : Int) (x1 : Int) (x2 : Sl) : Res := (fun (p : Env × Mem) => evI cx 20 0 1 p.1 p.2) ([(5, (.d (.int .i64 x0))), (1, (.d (.int .i64 x1))), (0, (.d (.sl false 9 x2.1 x2.2)))], [])
theorem laws_szBlockS_eq (x0 : Sl) (x1 : Int) : laws_szBlockS x0 x1 =
  oite (decide ((w64 (x1 - ((x0.1 : Nat) : Int))) < (0 : Int)))
    (some ((.d (.int .i64 (-1 : Int))), []))
    (laws_szBlockS_j1 (0 : Int) (w64 (x1 - ((x0.1 : Nat) : Int))) x0) := (evF_eq ..).trans (by kernel_rfl)
-- a loop's head
theorem laws_szBlockS_j1_eq (x0 : Int) (x1 : Int) (x2 : Sl) : laws_szBlockS_j1 x0 x1 x2 =
  oite (decide (x0 < ((x2.1 : Nat) : Int)))
    (oat sh_Block x2.1 x2.2 x0 fun (t0 : T_Block) =>
    ocall (.m (.one (.int .i64))) [] (laws_szBlock t0 x1) fun (r1 : Int) (m2 : Unit) =>
    oite (decide (r1 < (0 : Int)))
      (some ((.d (.int .i64 (-1 : Int))), []))
      (laws_szBlockS_j1 (w64 (x0 + (1 : Int))) r1 x2))
    (some ((.d (.int .i64 x1)), [])) := (evI_eq ..).trans (by kernel_rfl)
theorem laws_szIntS_eq (x0 : Sl) (x1 : Int) : laws_szIntS x0 x1 =
  oite (decide ((w64 (x1 - ((x0.1 : Nat) : Int))) < (0 : Int)))
    (some ((.d (.int .i64 (-1 : Int))), []))
    (some ((.d (.int .i64 (w64 (x1 - ((x0.1 : Nat) : Int))))), [])) := (evF_eq ..).trans (by kernel_rfl)
noncomputable def laws_toLayoutS_j1 (x0 : Int) (x1 : Sl) (x2 : Sl) : Res := (fun (p : Env × Mem) => evI cx 24 0 1 p.1 p.2) ([(4, (.d (.int .i64 x0))), (0, (.d (.sl false 1 x1.1 x1.2))), (3, (.own 0))], [(.row 1 x2.1 false false x2.2)])
theorem laws_toLayoutS_eq (x0 : Sl) : laws_toLayoutS x0 =
  oguard (decide (((0 : Int) ≤ ((x0.1 : Nat) : Int)) ∧ ((((x0.1 : Nat) : Int) = ((x0.1 : Nat) : Int)) ∧ ((((x0.1 : Nat) : Int) * (24 : Int)) ≤ (140737488351232 : Int))))) (
  olet (List.replicate (Int.toNat ((x0.1 : Nat) : Int)) ((D.sl false 1 0 []) :: [])) fun (e0 : (List (List D))) =>
  laws_toLayoutS_j1 (0 : Int) x0 ((Int.toNat ((x0.1 : Nat) : Int)), e0)) := (evF_eq ..).trans (by kernel_rfl)
-- a loop's head
theorem laws_toLayoutS_j1_eq (x0 : Int) (x1 : Sl) (x2 : Sl) : laws_toLayoutS_j1 x0 x1 x2 =
  oite (decide (x0 < ((x1.1 : Nat) : Int)))
    (oat [(.sl 1)] x1.1 x1.2 x0 fun (t1 : (Sl × Unit)) =>
    ocall (.m (.agg [(.sl 1)])) [] (laws_toLayout t1.1) fun (r2 : (Sl × Unit)) (m3 : Unit) =>
    oguard (decide (((0 : Int) ≤ x0) ∧ (x0 < ((x2.1 : Nat) : Int)))) (
    olet (List.set x2.2 (Int.toNat x0) (putD (List.getD x2.2 (Int.toNat x0) []) 0 [(D.sl false 1 r2.1.1 r2.1.2)])) fun (e4 : (List (List D))) =>
    laws_toLayoutS_j1 (w64 (x0 + (1 : Int))) x1 (x2.1, e4)))
    (some ((.d (.sl false 1 x2.1 x2.2)), [])) := (evI_eq ..).trans (by kernel_rfl)
noncomputable def laws_toBlockS_j1 (x0 : Int) (x1 : Sl) (x2 : Sl) : Res := (fun (p : Env × Mem) => evI cx 25 0 1 p.1 p.2) ([(4, (.d (.int .i64 x0))), (0, (.d (.sl false 9 x1.1 x1.2))), (3, (.own 0))], [(.row 9 x2.1 false false x2.2)])
theorem laws_toBlockS_eq (x0 : Sl) : laws_toBlockS x0 =
  oguard (decide (((0 : Int) ≤ ((x0.1 : Nat) : Int)) ∧ ((((x0.1 : Nat) : Int) = ((x0.1 : Nat) : Int)) ∧ ((((x0.1 : Nat) : Int) * (152 : Int)) ≤ (140737488351232 : Int))))) (
  olet (List.replicate (Int.toNat ((x0.1 : Nat) : Int)) (vDs (LS.encs sh_Block ((0, []), (0 : Int), (0 : Int), (0, []), (0 : Int), (0 : Int), (0, []), (0, []), (0, []), ())))) fun (e0 : (List (List D))) =>
  laws_toBlockS_j1 (0 : Int) x0 ((Int.toNat ((x0.1 : Nat) : Int)), e0)) := (evF_eq ..).trans (by kernel_rfl)
-- a loop's head
theorem laws_toBlockS_j1_eq (x0 : Int) (x1 : Sl) (x2 : Sl) : laws_toBlockS_j1 x0 x1 x2 =
  oite (decide (x0 < ((x1.1 : Nat) : Int)))
    (oat sh_Block x1.1 x1.2 x0 fun (t1 : T_Block) =>
    ocall (.m (.agg sh_Block)) [] (laws_toBlock t1) fun (r2 : T_Block) (m3 : Unit) =>
    oguard (decide (((0 : Int) ≤ x0) ∧ (x0 < ((x2.1 : Nat) : Int)))) (
    olet (List.set x2.2 (Int.toNat x0) (putD (List.getD x2.2 (Int.toNat x0) []) 0 (vDs (LS.encs sh_Block r2)))) fun (e4 : (List (List D))) =>
    laws_toBlockS_j1 (w64 (x0 + (1 : Int))) x1 (x2.1, e4)))
    (some ((.d (.sl false 9 x2.1 x2.2)), [])) := (evI_eq ..).trans (by kernel_rfl)
noncomputable def laws_toIntS_j1 (x0 : Int) (x1 : Sl) (x2 : Sl) : Res := (fun (p : Env × Mem) => evI cx 26 0 1 p.1 p.2) ([(4, (.d (.int .i64 x0))), (0, (.d (.sl false 1 x1.1 x1.2))), (3, (.own 0))], [(.row 1 x2.1 false false x2.2)])
theorem laws_toIntS_eq (x0 : Sl) : laws_toIntS x0 =
  oguard (decide (((0 : Int) ≤ ((x0.1 : Nat) : Int)) ∧ ((((x0.1 : Nat) : Int) = ((x0.1 : Nat) : Int)) ∧ ((((x0.1 : Nat) : Int) * (8 : Int)) ≤ (140737488351232 : Int))))) (
  olet (List.replicate (Int.toNat ((x0.1 : Nat) : Int)) ((D.int .i64 (0 : Int)) :: [])) fun (e0 : (List (List D))) =>
  laws_toIntS_j1 (0 : Int) x0 ((Int.toNat ((x0.1 : Nat) : Int)), e0)) := (evF_eq ..).trans (by kernel_rfl)
-- a loop's head
theorem laws_toIntS_j1_eq (x0 : Int) (x1 : Sl) (x2 : Sl) : laws_toIntS_j1 x0 x1 x2 =
  oite (decide (x0 < ((x1.1 : Nat) : Int)))
    (oat [(.int .i64)] x1.1 x1.2 x0 fun (t1 : (Int × Unit)) =>
    oguard (decide (((0 : Int) ≤ x0) ∧ (x0 < ((x2.1 : Nat) : Int)))) (
    olet (List.set x2.2 (Int.toNat x0) (putD (List.getD x2.2 (Int.toNat x0) []) 0 [(D.int .i64 t1.1)])) fun (e2 : (List (List D))) =>
    laws_toIntS_j1 (w64 (x0 + (1 : Int))) x1 (x2.1, e2)))
    (some ((.d (.sl false 1 x2.1 x2.2)), [])) := (evI_eq ..).trans (by kernel_rfl)
noncomputable def spec_l8programOk_j2 (x0 : Int) (x1 : Bool) (x2 : T_Program) : Res := (fun (p : Env × Mem) => evI cx 22 0 2 p.1 p.2) ([(1, (.ptr 0 0)), (3, (.d (.int .i64 x0))), (32, (.d (.bool x1)))], [(.box (LS.encs sh_Program x2))])
noncomputable def spec_l8programOk_j1 (x0 : Int) (x1 : T_Program) : Res := (fun (p : Env × Mem) => evI cx 22 0 1 p.1 p.2) ([(1, (.ptr 0 0)), (3, (.d (.int .i64 x0)))], [(.box (LS.encs sh_Program x1))])
noncomputable def spec_l8programOk_j3 (x0 : Int) (x1 : Int) (x2 : T_Program) : Res := (fun (p : Env × Mem) => evI cx 22 0 3 p.1 p.2) ([(4, (.d (.int .i64 x0))), (1, (.ptr 0 0)), (3, (.d (.int .i64 x1)))], [(.box (LS.encs sh_Program x2))])
noncomputable def spec_l8programOk_j4 (x0 : Int) (x1 : Int) (x2 : Bool) (x3 : T_Program) : Res := (fun (p : Env × Mem) => evI cx 22 0 4 p.1 p.2) ([(1, (.ptr 0 0)), (3, (.d (.int .i64 x0))), (4, (.d (.int .i64 x1))), (71, (.d (.bool x2)))], [(.box (LS.encs sh_Program x3))])
noncomputable def spec_l8programOk_j5 (x0 : Int) (x1 : Int) (x2 : T_Program) : Res := (fun (p : Env × Mem) => evI cx 22 0 5 p.1 p.2) ([(5, (.d (.int .i64 x0))), (3, (.d (.int .i64 x1))), (1, (.ptr 0 0))], [(.box (LS.encs sh_Program x2))])
noncomputable def spec_l8programOk_j7 (x0 : Int) (x1 : Int) (x2 : Bool) (x3 : T_Block) (x4 : T_Program) : Res := (fun (p : Env × Mem) => evI cx 22 0 7 p.1 p.2) ([(6, (.ptr 0 0)), (3, (.d (.int .i64 x0))), (1, (.ptr 1 0)), (5, (.d (.int .i64 x1))), (122, (.d (.bool x2)))], [(.box (LS.encs sh_Block x3)), (.box (LS.encs sh_Program x4))])
noncomputable def spec_l8programOk_j6 (x0 : Int) (x1 : Int) (x2 : T_Block) (x3 : T_Program) : Res := (fun (p : Env × Mem) => evI cx 22 0 6 p.1 p.2) ([(6, (.ptr 0 0)), (3, (.d (.int .i64 x0))), (1, (.ptr 1 0)), (5, (.d (.int .i64 x1)))], [(.box (LS.encs sh_Block x2)), (.box (LS.encs sh_Program x3))])
noncomputable def spec_l8programOk_j8 (x0 : Int) (x1 : Int) (x2 : Int) (x3 : T_Block) (x4 : T_Program) : Res := (fun (p : Env × Mem) => evI cx 22 0 8 p.1 p.2) ([(7, (.d (.int .i64 x0))), (6, (.ptr 0 0)), (3, (.d (.int .i64 x1))), (1, (.ptr 1 0)), (5, (.d (.int .i64 x2)))], [(.box (LS.encs sh_Block x3)), (.box (LS.encs sh_Program x4))])
theorem spec_l8programOk_eq (x0 : T_Program) : spec_l8programOk x0 =
  ocall (.m (.one .bool)) [] (spec_l7layoutsOk x0.1) fun (r0 : Bool) (m1 : Unit) =>
  oite (!r0)
    (spec_l8programOk_j2 ((x0.1.1 : Nat) : Int) true x0)
    (oite (decide (((x0.2.1.1 : Nat) : Int) < (1 : Int)))
      (spec_l8programOk_j2 ((x0.1.1 : Nat) : Int) true x0)
      (oite (decide (((x0.2.1.1 : Nat) : Int) > (150 : Int)))
        (spec_l8programOk_j2 ((x0.1.1 : Nat) : Int) true x0)
        (spec_l8programOk_j2 ((x0.1.1 : Nat) : Int) (decide (((x0.2.2.1.1 : Nat) : Int) > (5 : Int))) x0))) := (evF_eq ..).trans (by kernel_rfl)
theorem spec_l8programOk_j2_eq (x0 : Int) (x1 : Bool) (x2 : T_Program) : spec_l8programOk_j2 x0 x1 x2 =
  oite x1
    (some ((.d (.bool false)), []))
    (spec_l8programOk_j1 x0 x2) := (evI_eq ..).trans (by kernel_rfl)
theorem spec_l8programOk_j1_eq (x0 : Int) (x1 : T_Program) : spec_l8programOk_j1 x0 x1 =
  spec_l8programOk_j3 (0 : Int) x0 x1 := (evI_eq ..).trans (by kernel_rfl)
-- a loop's head
theorem spec_l8programOk_j3_eq (x0 : Int) (x1 : Int) (x2 : T_Program) : spec_l8programOk_j3 x0 x1 x2 =
  oite (decide (x0 < ((x2.2.2.1.1 : Nat) : Int)))
    (oat [(.int .i64)] x2.2.2.1.1 x2.2.2.1.2 x0 fun (t2 : (Int × Unit)) =>
    oite (decide (t2.1 < (0 : Int)))
      (spec_l8programOk_j4 x1 x0 true x2)
      (oat [(.int .i64)] x2.2.2.1.1 x2.2.2.1.2 x0 fun (t3 : (Int × Unit)) =>
      oite (decide (t3.1 > (4 : Int)))
        (spec_l8programOk_j4 x1 x0 true x2)
        (oite (decide (x0 > (0 : Int)))
          (oat [(.int .i64)] x2.2.2.1.1 x2.2.2.1.2 x0 fun (t4 : (Int × Unit)) =>
          oat [(.int .i64)] x2.2.2.1.1 x2.2.2.1.2 (w64 (x0 - (1 : Int))) fun (t5 : (Int × Unit)) =>
          spec_l8programOk_j4 x1 x0 (decide (t4.1 ≤ t5.1)) x2)
          (spec_l8programOk_j4 x1 x0 false x2))))
    (spec_l8programOk_j5 (0 : Int) x1 x2) := (evI_eq ..).trans (by kernel_rfl)
theorem spec_l8programOk_j4_eq (x0 : Int) (x1 : Int) (x2 : Bool) (x3 : T_Program) : spec_l8programOk_j4 x0 x1 x2 x3 =
  oite x2
    (some ((.d (.bool false)), []))
    (spec_l8programOk_j3 (w64 (x1 + (1 : Int))) x0 x3) := (evI_eq ..).trans (by kernel_rfl)
-- a loop's head
theorem spec_l8programOk_j5_eq (x0 : Int) (x1 : Int) (x2 : T_Program) : spec_l8programOk_j5 x0 x1 x2 =
  oite (decide (x0 < ((x2.2.1.1 : Nat) : Int)))
    (oat sh_Block x2.2.1.1 x2.2.1.2 x0 fun (t6 : T_Block) =>
    ocall (.m (.one .bool)) [] (spec_l8tysOk t6.1 (60 : Int) x1) fun (r7 : Bool) (m8 : Unit) =>
    oite (!r7)
      (spec_l8programOk_j7 x1 x0 true t6 x2)
      (ocall (.m (.one .bool)) [] (spec_l8tysOk t6.2.2.2.2.2.2.2.1 (60 : Int) x1) fun (r9 : Bool) (m10 : Unit) =>
      oite (!r9)
        (spec_l8programOk_j7 x1 x0 true t6 x2)
        (ocall (.m (.agg sh_Ty)) [] (spec_l6fun (t6.2.1, t6.2.2.1, t6.2.2.2.1, ()) (t6.2.2.2.2.1, t6.2.2.2.2.2.1, t6.2.2.2.2.2.2.1, ())) fun (r11 : T_Ty) (m12 : Unit) =>
        ocall (.m (.one .bool)) [] (spec_l8tysOk (3, ((vDs (LS.encs sh_Ty (t6.2.1, t6.2.2.1, t6.2.2.2.1, ()))) :: ((vDs (LS.encs sh_Ty (t6.2.2.2.2.1, t6.2.2.2.2.2.1, t6.2.2.2.2.2.2.1, ()))) :: ((vDs (LS.encs sh_Ty r11)) :: [])))) (3 : Int) x1) fun (r13 : Bool) (m14 : Unit) =>
        oite (!r13)
          (spec_l8programOk_j7 x1 x0 true t6 x2)
          (oite (decide (((t6.2.2.2.2.2.2.2.2.1.1 : Nat) : Int) < (1 : Int)))
            (spec_l8programOk_j7 x1 x0 true t6 x2)
            (spec_l8programOk_j7 x1 x0 (decide (((t6.2.2.2.2.2.2.2.2.1.1 : Nat) : Int) > (1000 : Int))) t6 x2)))))
    (some ((.d (.bool true)), [])) := (evI_eq ..).trans (by kernel_rfl)
theorem spec_l8programOk_j7_eq (x0 : Int) (x1 : Int) (x2 : Bool) (x3 : T_Block) (x4 : T_Program) : spec_l8programOk_j7 x0 x1 x2 x3 x4 =
  oite x2
    (some ((.d (.bool false)), []))
    (spec_l8programOk_j6 x0 x1 x3 x4) := (evI_eq ..).trans (by kernel_rfl)
theorem spec_l8programOk_j6_eq (x0 : Int) (x1 : Int) (x2 : T_Block) (x3 : T_Program) : spec_l8programOk_j6 x0 x1 x2 x3 =
  spec_l8programOk_j8 (0 : Int) x0 x1 x2 x3 := (evI_eq ..).trans (by kernel_rfl)
-- a loop's head
theorem spec_l8programOk_j8_eq (x0 : Int) (x1 : Int) (x2 : Int) (x3 : T_Block) (x4 : T_Program) : spec_l8programOk_j8 x0 x1 x2 x3 x4 =
  oite (decide (x0 < ((x3.2.2.2.2.2.2.2.2.1.1 : Nat) : Int)))
    (oat sh_Ins x3.2.2.2.2.2.2.2.2.1.1 x3.2.2.2.2.2.2.2.2.1.2 x0 fun (t15 : T_Ins) =>
    ocall (.m (.one .bool)) [] (spec_InsOk t15) fun (r16 : Bool) (m17 : Unit) =>
    oite (!r16)
      (some ((.d (.bool false)), []))
      (spec_l8programOk_j8 (w64 (x0 + (1 : Int))) x1 x2 x3 x4))
    (spec_l8programOk_j5 (w64 (x2 + (1 : Int))) x1 x4) := (evI_eq ..).trans (by kernel_rfl)
noncomputable def spec_l8bytes_j1 (x0 : Int) (x1 : T_Program) (x2 : Sl) : Res := (fun (p : Env × Mem) => evI cx 23 0 1 p.1 p.2) ([(4, (.d (.int .i64 x0))), (1, (.ptr 0 0)), (3, (.own 1))], [(.box (LS.encs sh_Program x1)), (.row 1 x2.1 false true x2.2)])
noncomputable def spec_l8bytes_j2 (x0 : Int) (x1 : Int) (x2 : T_Program) (x3 : Sl) : Res := (fun (p : Env × Mem) => evI cx 23 0 2 p.1 p.2) ([(5, (.d (.int .i64 x0))), (4, (.d (.int .i64 x1))), (1, (.ptr 0 0)), (3, (.own 1))], [(.box (LS.encs sh_Program x2)), (.row 1 x3.1 false true x3.2)])
noncomputable def spec_l8bytes_j3 (x0 : Int) (x1 : T_Program) (x2 : Sl) : Res := (fun (p : Env × Mem) => evI cx 23 0 3 p.1 p.2) ([(6, (.d (.int .i64 x0))), (1, (.ptr 0 0)), (3, (.own 1))], [(.box (LS.encs sh_Program x1)), (.row 1 x2.1 false true x2.2)])
noncomputable def spec_l8bytes_j4 (x0 : Int) (x1 : Sl) (x2 : T_Program) : Res := (fun (p : Env × Mem) => evI cx 23 0 4 p.1 p.2) ([(7, (.d (.int .i64 x0))), (3, (.own 0)), (1, (.ptr 1 0))], [(.row 1 x1.1 false true x1.2), (.box (LS.encs sh_Program x2))])
noncomputable def spec_l8bytes_j5 (x0 : Int) (x1 : Int) (x2 : T_Block) (x3 : Sl) (x4 : T_Program) : Res := (fun (p : Env × Mem) => evI cx 23 0 5 p.1 p.2) ([(9, (.d (.int .i64 x0))), (8, (.ptr 0 0)), (3, (.own 1)), (1, (.ptr 2 0)), (7, (.d (.int .i64 x1)))], [(.box (LS.encs sh_Block x2)), (.row 1 x3.1 false true x3.2), (.box (LS.encs sh_Program x4))])
theorem spec_l8bytes_eq (x0 : T_Program) : spec_l8bytes x0 =
  ocall (.m (.one (.own 1))) [(.row 1 false false), (.row 1 false true)] (spec_PutNum_o ((x0.1.1 : Nat) : Int) (2, (((D.int .u8 (76 : Int)) :: []) :: (((D.int .u8 (75 : Int)) :: []) :: [])))) fun (r0 : Unit) (m1 : (Sl × (Sl × Unit))) =>
  spec_l8bytes_j1 (0 : Int) x0 m1.2.1 := (evF_eq ..).trans (by kernel_rfl)
-- a loop's head
theorem spec_l8bytes_j1_eq (x0 : Int) (x1 : T_Program) (x2 : Sl) : spec_l8bytes_j1 x0 x1 x2 =
  oite (decide (x0 < ((x1.1.1 : Nat) : Int)))
    (oat [(.sl 1)] x1.1.1 x1.1.2 x0 fun (t2 : (Sl × Unit)) =>
    ocall (.m (.one (.own (0 + (List.length ((Ent.row 1 x2.1 false false x2.2) :: [])))))) [(.row 1 false false), (.row 1 false true)] (spec_PutNum_o ((t2.1.1 : Nat) : Int) x2) fun (r3 : Unit) (m4 : (Sl × (Sl × Unit))) =>
    spec_l8bytes_j2 (0 : Int) x0 x1 m4.2.1)
    (ocall (.m (.one (.own (0 + (List.length ((Ent.row 1 x2.1 false false x2.2) :: [])))))) [(.row 1 false false), (.row 1 false true)] (spec_PutNum_o ((x1.2.2.1.1 : Nat) : Int) x2) fun (r5 : Unit) (m6 : (Sl × (Sl × Unit))) =>
    spec_l8bytes_j3 (0 : Int) x1 m6.2.1) := (evI_eq ..).trans (by kernel_rfl)
-- a loop's head
theorem spec_l8bytes_j2_eq (x0 : Int) (x1 : Int) (x2 : T_Program) (x3 : Sl) : spec_l8bytes_j2 x0 x1 x2 x3 =
  oat [(.sl 1)] x2.1.1 x2.1.2 x1 fun (t7 : (Sl × Unit)) =>
  oite (decide (x0 < ((t7.1.1 : Nat) : Int)))
    (oat [(.sl 1)] x2.1.1 x2.1.2 x1 fun (t8 : (Sl × Unit)) =>
    oat [(.sl 3)] t8.1.1 t8.1.2 x0 fun (t9 : (Sl × Unit)) =>
    ocall (.m (.one (.own 0))) [(.row 1 false true)] (spec_l8tys_o t9.1 x3) fun (r10 : Unit) (m11 : (Sl × Unit)) =>
    spec_l8bytes_j2 (w64 (x0 + (1 : Int))) x1 x2 m11.1)
    (spec_l8bytes_j1 (w64 (x1 + (1 : Int))) x2 x3) := (evI_eq ..).trans (by kernel_rfl)
-- a loop's head
theorem spec_l8bytes_j3_eq (x0 : Int) (x1 : T_Program) (x2 : Sl) : spec_l8bytes_j3 x0 x1 x2 =
  oite (decide (x0 < ((x1.2.2.1.1 : Nat) : Int)))
    (oat [(.int .i64)] x1.2.2.1.1 x1.2.2.1.2 x0 fun (t12 : (Int × Unit)) =>
    ocall (.m (.one (.own (0 + (List.length ((Ent.row 1 x2.1 false false x2.2) :: [])))))) [(.row 1 false false), (.row 1 false true)] (spec_PutNum_o t12.1 x2) fun (r13 : Unit) (m14 : (Sl × (Sl × Unit))) =>
    spec_l8bytes_j3 (w64 (x0 + (1 : Int))) x1 m14.2.1)
    (ocall (.m (.one (.own (0 + (List.length ((Ent.row 1 x2.1 false false x2.2) :: [])))))) [(.row 1 false false), (.row 1 false true)] (spec_PutNum_o ((x1.2.1.1 : Nat) : Int) x2) fun (r15 : Unit) (m16 : (Sl × (Sl × Unit))) =>
    spec_l8bytes_j4 (0 : Int) m16.2.1 x1) := (evI_eq ..).trans (by kernel_rfl)
-- a loop's head
theorem spec_l8bytes_j4_eq (x0 : Int) (x1 : Sl) (x2 : T_Program) : spec_l8bytes_j4 x0 x1 x2 =
  oite (decide (x0 < ((x2.2.1.1 : Nat) : Int)))
    (oat sh_Block x2.2.1.1 x2.2.1.2 x0 fun (t17 : T_Block) =>
    ocall (.m (.one (.own 0))) [(.row 1 false true)] (spec_l8tys_o t17.1 x1) fun (r18 : Unit) (m19 : (Sl × Unit)) =>
    ocall (.m (.one (.own 0))) [(.row 1 false true)] (spec_l3bytes_o (t17.2.1, t17.2.2.1, t17.2.2.2.1, ()) m19.1) fun (r20 : Unit) (m21 : (Sl × Unit)) =>
    osame (α := List V) [(.agg [(.d (.int .i64 t17.2.2.2.2.1)), (.d (.int .i64 t17.2.2.2.2.2.1)), (.d (.sl false 3 t17.2.2.2.2.2.2.1.1 t17.2.2.2.2.2.2.1.2))])] [(.agg [(.d (.int .i64 t17.2.2.2.2.1)), (.d (.int .i64 t17.2.2.2.2.2.1)), (.d (.sl false 3 t17.2.2.2.2.2.2.1.1 t17.2.2.2.2.2.2.1.2))])] (
    ocall (.m (.one (.own 0))) [(.row 1 false true)] (spec_l3bytes_o (t17.2.2.2.2.1, t17.2.2.2.2.2.1, t17.2.2.2.2.2.2.1, ()) m21.1) fun (r22 : Unit) (m23 : (Sl × Unit)) =>
    ocall (.m (.one (.own 0))) [(.row 1 false true)] (spec_l8tys_o t17.2.2.2.2.2.2.2.1 m23.1) fun (r24 : Unit) (m25 : (Sl × Unit)) =>
    ocall (.m (.one (.own (0 + (List.length ((Ent.row 1 m25.1.1 false false m25.1.2) :: [])))))) [(.row 1 false false), (.row 1 false true)] (spec_PutNum_o ((t17.2.2.2.2.2.2.2.2.1.1 : Nat) : Int) m25.1) fun (r26 : Unit) (m27 : (Sl × (Sl × Unit))) =>
    spec_l8bytes_j5 (0 : Int) x0 t17 m27.2.1 x2))
    (some ((.own 0), [(.row 1 x1.1 false true x1.2)])) := (evI_eq ..).trans (by kernel_rfl)
-- a loop's head
theorem spec_l8bytes_j5_eq (x0 : Int) (x1 : Int) (x2 : T_Block) (x3 : Sl) (x4 : T_Program) : spec_l8bytes_j5 x0 x1 x2 x3 x4 =
  oite (decide (x0 < ((x2.2.2.2.2.2.2.2.2.1.1 : Nat) : Int)))
    (oat sh_Ins x2.2.2.2.2.2.2.2.2.1.1 x2.2.2.2.2.2.2.2.2.1.2 x0 fun (t28 : T_Ins) =>
    ocall (.m (.one (.own 0))) [(.row 1 false true)] (spec_l8ins_o t28 x3) fun (r29 : Unit) (m30 : (Sl × Unit)) =>
    spec_l8bytes_j5 (w64 (x0 + (1 : Int))) x1 x2 m30.1 x4)
    (spec_l8bytes_j4 (w64 (x1 + (1 : Int))) x3 x4) := (evI_eq ..).trans (by kernel_rfl)
noncomputable def impl_formOk_j2 (x0 : Bool) (x1 : T_Program) : Res := (fun (p : Env × Mem) => evI cx 27 0 2 p.1 p.2) ([(1, (.ptr 0 0)), (19, (.d (.bool x0)))], [(.box (LS.encs sh_Program x1))])
noncomputable def impl_formOk_j1 (x0 : T_Program) : Res := (fun (p : Env × Mem) => evI cx 27 0 1 p.1 p.2) ([(1, (.ptr 0 0))], [(.box (LS.encs sh_Program x0))])
theorem impl_formOk_eq (x0 : T_Program) : impl_formOk x0 =
  ocall (.m (.one .bool)) [] (impl_layoutsOk x0.1) fun (r0 : Bool) (m1 : Unit) =>
  oite (!r0)
    (impl_formOk_j2 true x0)
    (ocall (.m (.one .bool)) [] (impl_within ((x0.2.1.1 : Nat) : Int) (1 : Int) (150 : Int)) fun (r2 : Bool) (m3 : Unit) =>
    oite (!r2)
      (impl_formOk_j2 true x0)
      (ocall (.m (.one .bool)) [] (impl_ascending x0.2.2.1 (0 : Int) (4 : Int)) fun (r4 : Bool) (m5 : Unit) =>
      impl_formOk_j2 (!r4) x0)) := (evF_eq ..).trans (by kernel_rfl)
theorem impl_formOk_j2_eq (x0 : Bool) (x1 : T_Program) : impl_formOk_j2 x0 x1 =
  oite x0
    (some ((.d (.bool false)), []))
    (impl_formOk_j1 x1) := (evI_eq ..).trans (by kernel_rfl)
theorem impl_formOk_j1_eq (x0 : T_Program) : impl_formOk_j1 x0 =
  ocall (.m (.one .bool)) [(.box sh_Program)] (slices_ContainsFunc_impl_Block_impl_Block_Fimpl_formOk_1c x0.2.1 x0) fun (r6 : Bool) (m7 : (T_Program × Unit)) =>
  some ((.d (.bool (!r6))), []) := (evI_eq ..).trans (by kernel_rfl)
noncomputable def impl_codeBytes_j1 (x0 : Int) (x1 : Sl) (x2 : Int) (x3 : Sl) (x4 : T_Program) : Res := (fun (p : Env × Mem) => evI cx 28 0 1 p.1 p.2) ([(22, (.d (.int .i64 x0))), (3, (.own 0)), (20, (.d (.sl false 1 x1.1 x1.2))), (1, (.ptr 1 0)), (21, (.d (.int .i64 x2)))], [(.row 1 x3.1 false true x3.2), (.box (LS.encs sh_Program x4))])
noncomputable def impl_codeBytes_j2 (x0 : Int) (x1 : Sl) (x2 : Sl) (x3 : Int) (x4 : Int) (x5 : Int) (x6 : Sl) (x7 : T_Program) : Res := (fun (p : Env × Mem) => evI cx 28 0 2 p.1 p.2) ([(34, (.d (.int .i64 x0))), (3, (.own 0)), (32, (.d (.sl false 1 x1.1 x1.2))), (20, (.d (.sl false 1 x2.1 x2.2))), (1, (.ptr 1 0)), (21, (.d (.int .i64 x3))), (22, (.d (.int .i64 x4))), (33, (.d (.int .i64 x5)))], [(.row 1 x6.1 false true x6.2), (.box (LS.encs sh_Program x7))])
noncomputable def impl_codeBytes_j3 (x0 : Int) (x1 : Sl) (x2 : Int) (x3 : Sl) : Res := (fun (p : Env × Mem) => evI cx 28 0 3 p.1 p.2) ([(54, (.d (.int .i64 x0))), (3, (.own 0)), (52, (.d (.sl false 9 x1.1 x1.2))), (53, (.d (.int .i64 x2)))], [(.row 1 x3.1 false true x3.2)])
noncomputable def impl_codeBytes_j4 (x0 : Int) (x1 : Sl) (x2 : Sl) (x3 : Int) (x4 : Int) (x5 : Int) (x6 : Sl) (x7 : Sl) : Res := (fun (p : Env × Mem) => evI cx 28 0 4 p.1 p.2) ([(81, (.d (.int .i64 x0))), (10, (.own 0)), (79, (.d (.sl false 5 x1.1 x1.2))), (52, (.d (.sl false 9 x2.1 x2.2))), (53, (.d (.int .i64 x3))), (54, (.d (.int .i64 x4))), (3, (.own 1)), (80, (.d (.int .i64 x5)))], [(.row 1 x6.1 false false x6.2), (.row 1 x7.1 false true x7.2)])
noncomputable def impl_codeBytes_j4v1 (x0 : Int) (x1 : Sl) (x2 : Sl) (x3 : Int) (x4 : Int) (x5 : Int) (x6 : Sl) (x7 : Sl) : Res := (fun (p : Env × Mem) => evI cx 28 0 4 p.1 p.2) ([(81, (.d (.int .i64 x0))), (10, (.own 0)), (79, (.d (.sl false 5 x1.1 x1.2))), (52, (.d (.sl false 9 x2.1 x2.2))), (53, (.d (.int .i64 x3))), (54, (.d (.int .i64 x4))), (3, (.own 1)), (80, (.d (.int .i64 x5)))], [(.row 1 x6.1 false true x6.2), (.row 1 x7.1 false true x7.2)])
theorem impl_codeBytes_eq (x0 : T_Program) : impl_codeBytes x0 =
  ocall (.m (.one (.own 1))) [(.row 1 false false), (.row 1 false true)] (impl_PutNum_o ((x0.1.1 : Nat) : Int) (2, (((D.int .u8 (76 : Int)) :: []) :: (((D.int .u8 (75 : Int)) :: []) :: [])))) fun (r0 : Unit) (m1 : (Sl × (Sl × Unit))) =>
  impl_codeBytes_j1 (0 : Int) x0.1 ((x0.1.1 : Nat) : Int) m1.2.1 x0 := (evF_eq ..).trans (by kernel_rfl)
-- a loop's head
theorem impl_codeBytes_j1_eq (x0 : Int) (x1 : Sl) (x2 : Int) (x3 : Sl) (x4 : T_Program) : impl_codeBytes_j1 x0 x1 x2 x3 x4 =
  oite (decide (x0 < x2))
    (oat [(.sl 1)] x1.1 x1.2 x0 fun (t2 : (Sl × Unit)) =>
    ocall (.m (.one (.own (0 + (List.length ((Ent.row 1 x3.1 false false x3.2) :: [])))))) [(.row 1 false false), (.row 1 false true)] (impl_PutNum_o ((t2.1.1 : Nat) : Int) x3) fun (r3 : Unit) (m4 : (Sl × (Sl × Unit))) =>
    impl_codeBytes_j2 (0 : Int) t2.1 x1 x2 x0 ((t2.1.1 : Nat) : Int) m4.2.1 x4)
    (ocall (.m (.one (.own 0))) [(.row 1 false true)] (impl_putNums_o x4.2.2.1 x3) fun (r5 : Unit) (m6 : (Sl × Unit)) =>
    osame (α := List V) [(.d (.sl false 9 x4.2.1.1 x4.2.1.2))] [(.d (.sl false 9 x4.2.1.1 x4.2.1.2))] (
    osame (α := List V) [(.d (.int .i64 ((x4.2.1.1 : Nat) : Int)))] [(.d (.int .i64 ((x4.2.1.1 : Nat) : Int)))] (
    ocall (.m (.one (.own (0 + (List.length ((Ent.row 1 m6.1.1 false false m6.1.2) :: [])))))) [(.row 1 false false), (.row 1 false true)] (impl_PutNum_o ((x4.2.1.1 : Nat) : Int) m6.1) fun (r7 : Unit) (m8 : (Sl × (Sl × Unit))) =>
    impl_codeBytes_j3 (0 : Int) x4.2.1 ((x4.2.1.1 : Nat) : Int) m8.2.1))) := (evI_eq ..).trans (by kernel_rfl)
-- a loop's head
theorem impl_codeBytes_j2_eq (x0 : Int) (x1 : Sl) (x2 : Sl) (x3 : Int) (x4 : Int) (x5 : Int) (x6 : Sl) (x7 : T_Program) : impl_codeBytes_j2 x0 x1 x2 x3 x4 x5 x6 x7 =
  oite (decide (x0 < x5))
    (oat [(.sl 3)] x1.1 x1.2 x0 fun (t9 : (Sl × Unit)) =>
    ocall (.m (.one (.own 0))) [(.row 1 false true)] (impl_putTys_o t9.1 x6) fun (r10 : Unit) (m11 : (Sl × Unit)) =>
    impl_codeBytes_j2 (w64 (x0 + (1 : Int))) x1 x2 x3 x4 x5 m11.1 x7)
    (impl_codeBytes_j1 (w64 (x4 + (1 : Int))) x2 x3 x6 x7) := (evI_eq ..).trans (by kernel_rfl)
-- a loop's head
theorem impl_codeBytes_j3_eq (x0 : Int) (x1 : Sl) (x2 : Int) (x3 : Sl) : impl_codeBytes_j3 x0 x1 x2 x3 =
  oite (decide (x0 < x2))
    (oat sh_Block x1.1 x1.2 x0 fun (t12 : T_Block) =>
    ocall (.m (.one (.own 0))) [(.row 1 false true)] (impl_putTys_o t12.1 x3) fun (r13 : Unit) (m14 : (Sl × Unit)) =>
    ocall (.m (.one (.own 0))) [(.row 1 false true)] (impl_putTy_o (t12.2.1, t12.2.2.1, t12.2.2.2.1, ()) m14.1) fun (r15 : Unit) (m16 : (Sl × Unit)) =>
    osame (α := List V) [(.agg [(.d (.int .i64 t12.2.2.2.2.1)), (.d (.int .i64 t12.2.2.2.2.2.1)), (.d (.sl false 3 t12.2.2.2.2.2.2.1.1 t12.2.2.2.2.2.2.1.2))])] [(.agg [(.d (.int .i64 t12.2.2.2.2.1)), (.d (.int .i64 t12.2.2.2.2.2.1)), (.d (.sl false 3 t12.2.2.2.2.2.2.1.1 t12.2.2.2.2.2.2.1.2))])] (
    ocall (.m (.one (.own 0))) [(.row 1 false true)] (impl_putTy_o (t12.2.2.2.2.1, t12.2.2.2.2.2.1, t12.2.2.2.2.2.2.1, ()) m16.1) fun (r17 : Unit) (m18 : (Sl × Unit)) =>
    ocall (.m (.one (.own 0))) [(.row 1 false true)] (impl_putTys_o t12.2.2.2.2.2.2.2.1 m18.1) fun (r19 : Unit) (m20 : (Sl × Unit)) =>
    osame (α := List V) [(.d (.sl false 5 t12.2.2.2.2.2.2.2.2.1.1 t12.2.2.2.2.2.2.2.2.1.2))] [(.d (.sl false 5 t12.2.2.2.2.2.2.2.2.1.1 t12.2.2.2.2.2.2.2.2.1.2))] (
    osame (α := List V) [(.d (.int .i64 ((t12.2.2.2.2.2.2.2.2.1.1 : Nat) : Int)))] [(.d (.int .i64 ((t12.2.2.2.2.2.2.2.2.1.1 : Nat) : Int)))] (
    ocall (.m (.one (.own (0 + (List.length ((Ent.row 1 m20.1.1 false false m20.1.2) :: [])))))) [(.row 1 false false), (.row 1 false true)] (impl_PutNum_o ((t12.2.2.2.2.2.2.2.2.1.1 : Nat) : Int) m20.1) fun (r21 : Unit) (m22 : (Sl × (Sl × Unit))) =>
    impl_codeBytes_j4 (0 : Int) t12.2.2.2.2.2.2.2.2.1 x1 x2 x0 ((t12.2.2.2.2.2.2.2.2.1.1 : Nat) : Int) (0, []) m22.2.1))))
    (some ((.own 0), [(.row 1 x3.1 false true x3.2)])) := (evI_eq ..).trans (by kernel_rfl)
-- a loop's head
theorem impl_codeBytes_j4_eq (x0 : Int) (x1 : Sl) (x2 : Sl) (x3 : Int) (x4 : Int) (x5 : Int) (x6 : Sl) (x7 : Sl) : impl_codeBytes_j4 x0 x1 x2 x3 x4 x5 x6 x7 =
  oite (decide (x0 < x5))
    (oat sh_Ins x1.1 x1.2 x0 fun (t23 : T_Ins) =>
    ocall (.m (.one (.own 0))) [(.row 1 false true)] (impl_putIns_o t23 (0, [])) fun (r24 : Unit) (m25 : (Sl × Unit)) =>
    oguard (decide (((x6.1 + m25.1.1) * 1) ≤ 140737488351232)) (
    olet (x6.2 ++ m25.1.2) fun (e26 : (List (List D))) =>
    impl_codeBytes_j4v1 (w64 (x0 + (1 : Int))) x1 x2 x3 x4 x5 ((x6.1 + m25.1.1), e26) x7))
    (oguard (decide (((x7.1 + x6.1) * 1) ≤ 140737488351232)) (
    olet (x7.2 ++ x6.2) fun (e27 : (List (List D))) =>
    impl_codeBytes_j3 (w64 (x4 + (1 : Int))) x2 x3 ((x7.1 + x6.1), e27))) := (evI_eq ..).trans (by kernel_rfl)
-- a loop's head
theorem impl_codeBytes_j4v1_eq (x0 : Int) (x1 : Sl) (x2 : Sl) (x3 : Int) (x4 : Int) (x5 : Int) (x6 : Sl) (x7 : Sl) : impl_codeBytes_j4v1 x0 x1 x2 x3 x4 x5 x6 x7 =
  oite (decide (x0 < x5))
    (oat sh_Ins x1.1 x1.2 x0 fun (t28 : T_Ins) =>
    ocall (.m (.one (.own 0))) [(.row 1 false true)] (impl_putIns_o t28 (0, [])) fun (r29 : Unit) (m30 : (Sl × Unit)) =>
    oguard (decide (((x6.1 + m30.1.1) * 1) ≤ 140737488351232)) (
    olet (x6.2 ++ m30.1.2) fun (e31 : (List (List D))) =>
    impl_codeBytes_j4v1 (w64 (x0 + (1 : Int))) x1 x2 x3 x4 x5 ((x6.1 + m30.1.1), e31) x7))
    (oguard (decide (((x7.1 + x6.1) * 1) ≤ 140737488351232)) (
    olet (x7.2 ++ x6.2) fun (e32 : (List (List D))) =>
    impl_codeBytes_j3 (w64 (x4 + (1 : Int))) x2 x3 ((x7.1 + x6.1), e32))) := (evI_eq ..).trans (by kernel_rfl)
noncomputable def laws_eqLayoutS_j1 (x0 : Int) (x1 : Sl) (x2 : Sl) : Res := (fun (p : Env × Mem) => evI cx 29 0 1 p.1 p.2) ([(5, (.d (.int .i64 x0))), (1, (.d (.sl false 1 x1.1 x1.2))), (0, (.d (.sl false 1 x2.1 x2.2)))], [])
theorem laws_eqLayoutS_eq (x0 : Sl) (x1 : Sl) : laws_eqLayoutS x0 x1 =
  oite (!(((x0.1 : Nat) : Int) == ((x1.1 : Nat) : Int)))
    (some ((.d (.bool false)), []))
    (laws_eqLayoutS_j1 (0 : Int) x1 x0) := (evF_eq ..).trans (by kernel_rfl)
-- a loop's head
theorem laws_eqLayoutS_j1_eq (x0 : Int) (x1 : Sl) (x2 : Sl) : laws_eqLayoutS_j1 x0 x1 x2 =
  oite (decide (x0 < ((x2.1 : Nat) : Int)))
    (oat [(.sl 1)] x2.1 x2.2 x0 fun (t0 : (Sl × Unit)) =>
    oat [(.sl 1)] x1.1 x1.2 x0 fun (t1 : (Sl × Unit)) =>
    ocall (.m (.one .bool)) [] (laws_eqLayout t0.1 t1.1) fun (r2 : Bool) (m3 : Unit) =>
    oite (!r2)
      (some ((.d (.bool false)), []))
      (laws_eqLayoutS_j1 (w64 (x0 + (1 : Int))) x1 x2))
    (some ((.d (.bool true)), [])) := (evI_eq ..).trans (by kernel_rfl)
noncomputable def laws_eqBlockS_j1 (x0 : Int) (x1 : Sl) (x2 : Sl) : Res := (fun (p : Env × Mem) => evI cx 30 0 1 p.1 p.2) ([(5, (.d (.int .i64 x0))), (1, (.d (.sl false 9 x1.1 x1.2))), (0, (.d (.sl false 9 x2.1 x2.2)))], [])
theorem laws_eqBlockS_eq (x0 : Sl) (x1 : Sl) : laws_eqBlockS x0 x1 =
  oite (!(((x0.1 : Nat) : Int) == ((x1.1 : Nat) : Int)))
    (some ((.d (.bool false)), []))
    (laws_eqBlockS_j1 (0 : Int) x1 x0) := (evF_eq ..).trans (by kernel_rfl)
-- a loop's head
theorem laws_eqBlockS_j1_eq (x0 : Int) (x1 : Sl) (x2 : Sl) : laws_eqBlockS_j1 x0 x1 x2 =
  oite (decide (x0 < ((x2.1 : Nat) : Int)))
    (oat sh_Block x2.1 x2.2 x0 fun (t0 : T_Block) =>
    oat sh_Block x1.1 x1.2 x0 fun (t1 : T_Block) =>
    ocall (.m (.one .bool)) [] (laws_eqBlock t0 t1) fun (r2 : Bool) (m3 : Unit) =>
    oite (!r2)
      (some ((.d (.bool false)), []))
      (laws_eqBlockS_j1 (w64 (x0 + (1 : Int))) x1 x2))
    (some ((.d (.bool true)), [])) := (evI_eq ..).trans (by kernel_rfl)
noncomputable def laws_eqIntS_j1 (x0 : Int) (x1 : Sl) (x2 : Sl) : Res := (fun (p : Env × Mem) => evI cx 14 0 1 p.1 p.2) ([(5, (.d (.int .i64 x0))), (1, (.d (.sl false 1 x1.1 x1.2))), (0, (.d (.sl false 1 x2.1 x2.2)))], [])
theorem laws_eqIntS_eq (x0 : Sl) (x1 : Sl) : laws_eqIntS x0 x1 =
  oite (!(((x0.1 : Nat) : Int) == ((x1.1 : Nat) : Int)))
    (some ((.d (.bool false)), []))
    (laws_eqIntS_j1 (0 : Int) x1 x0) := (evF_eq ..).trans (by kernel_rfl)
-- a loop's head
theorem laws_eqIntS_j1_eq (x0 : Int) (x1 : Sl) (x2 : Sl) : laws_eqIntS_j1 x0 x1 x2 =
  oite (decide (x0 < ((x2.1 : Nat) : Int)))
    (oat [(.int .i64)] x2.1 x2.2 x0 fun (t0 : (Int × Unit)) =>
    oat [(.int .i64)] x1.1 x1.2 x0 fun (t1 : (Int × Unit)) =>
    oite (!(t0.1 == t1.1))
      (some ((.d (.bool false)), []))
      (laws_eqIntS_j1 (w64 (x0 + (1 : Int))) x1 x2))
    (some ((.d (.bool true)), [])) := (evI_eq ..).trans (by kernel_rfl)
theorem laws_szLayout_eq (x0 : Sl) (x1 : Int) : laws_szLayout x0 x1 =
  ocall (.m (.one (.int .i64))) [] (laws_szTySS x0 x1) fun (r0 : Int) (m1 : Unit) =>
  oite (decide (r0 < (0 : Int)))
    (some ((.d (.int .i64 (-1 : Int))), []))
    (some ((.d (.int .i64 r0)), [])) := (evF_eq ..).trans (by kernel_rfl)
theorem laws_szBlock_eq (x0 : T_Block) (x1 : Int) : laws_szBlock x0 x1 =
  ocall (.m (.one (.int .i64))) [] (laws_szTyS x0.1 x1) fun (r0 : Int) (m1 : Unit) =>
  oite (decide (r0 < (0 : Int)))
    (some ((.d (.int .i64 (-1 : Int))), []))
    (ocall (.m (.one (.int .i64))) [] (laws_szTy (x0.2.1, x0.2.2.1, x0.2.2.2.1, ()) r0) fun (r2 : Int) (m3 : Unit) =>
    oite (decide (r2 < (0 : Int)))
      (some ((.d (.int .i64 (-1 : Int))), []))
      (ocall (.m (.one (.int .i64))) [] (laws_szTy (x0.2.2.2.2.1, x0.2.2.2.2.2.1, x0.2.2.2.2.2.2.1, ()) r2) fun (r4 : Int) (m5 : Unit) =>
      oite (decide (r4 < (0 : Int)))
        (some ((.d (.int .i64 (-1 : Int))), []))
        (ocall (.m (.one (.int .i64))) [] (laws_szTyS x0.2.2.2.2.2.2.2.1 r4) fun (r6 : Int) (m7 : Unit) =>
        oite (decide (r6 < (0 : Int)))
          (some ((.d (.int .i64 (-1 : Int))), []))
          (ocall (.m (.one (.int .i64))) [] (laws_szInsS x0.2.2.2.2.2.2.2.2.1 r6) fun (r8 : Int) (m9 : Unit) =>
          oite (decide (r8 < (0 : Int)))
            (some ((.d (.int .i64 (-1 : Int))), []))
            (some ((.d (.int .i64 r8)), [])))))) := (evF_eq ..).trans (by kernel_rfl)
theorem laws_toLayout_eq (x0 : Sl) : laws_toLayout x0 =
  ocall (.m (.one (.sl 1))) [] (laws_toTySS x0) fun (r0 : Sl) (m1 : Unit) =>
  some ((.agg [(.d (.sl false 1 r0.1 r0.2))]), []) := (evF_eq ..).trans (by kernel_rfl)
theorem laws_toBlock_eq (x0 : T_Block) : laws_toBlock x0 =
  ocall (.m (.one (.sl 3))) [] (laws_toTyS x0.1) fun (r0 : Sl) (m1 : Unit) =>
  ocall (.m (.agg sh_Ty)) [] (laws_toTy (x0.2.1, x0.2.2.1, x0.2.2.2.1, ())) fun (r2 : T_Ty) (m3 : Unit) =>
  ocall (.m (.agg sh_Ty)) [] (laws_toTy (x0.2.2.2.2.1, x0.2.2.2.2.2.1, x0.2.2.2.2.2.2.1, ())) fun (r4 : T_Ty) (m5 : Unit) =>
  ocall (.m (.one (.sl 3))) [] (laws_toTyS x0.2.2.2.2.2.2.2.1) fun (r6 : Sl) (m7 : Unit) =>
  ocall (.m (.one (.sl 5))) [] (laws_toInsS x0.2.2.2.2.2.2.2.2.1) fun (r8 : Sl) (m9 : Unit) =>
  some ((.agg (LS.encs sh_Block (r0, r2.1, r2.2.1, r2.2.2.1, r4.1, r4.2.1, r4.2.2.1, r6, r8, ()))), []) := (evF_eq ..).trans (by kernel_rfl)
noncomputable def spec_l7layoutsOk_j1 (x0 : Sl) (x1 : Int) : Res := (fun (p : Env × Mem) => evI cx 53 0 1 p.1 p.2) ([(0, (.d (.sl false 1 x0.1 x0.2))), (3, (.d (.int .i64 x1)))], [])
noncomputable def spec_l7layoutsOk_j3 (x0 : Sl) (x1 : Int) (x2 : Bool) : Res := (fun (p : Env × Mem) => evI cx 53 0 3 p.1 p.2) ([(0, (.d (.sl false 1 x0.1 x0.2))), (3, (.d (.int .i64 x1))), (30, (.d (.bool x2)))], [])
noncomputable def spec_l7layoutsOk_j2 (x0 : Sl) (x1 : Int) : Res := (fun (p : Env × Mem) => evI cx 53 0 2 p.1 p.2) ([(0, (.d (.sl false 1 x0.1 x0.2))), (3, (.d (.int .i64 x1)))], [])
noncomputable def spec_l7layoutsOk_j4 (x0 : Sl) (x1 : Int) (x2 : Int) : Res := (fun (p : Env × Mem) => evI cx 53 0 4 p.1 p.2) ([(0, (.d (.sl false 1 x0.1 x0.2))), (4, (.d (.int .i64 x1))), (3, (.d (.int .i64 x2)))], [])
noncomputable def spec_l7layoutsOk_j5 (x0 : Int) (x1 : Sl) (x2 : Int) (x3 : Int) : Res := (fun (p : Env × Mem) => evI cx 53 0 5 p.1 p.2) ([(5, (.d (.int .i64 x0))), (0, (.d (.sl false 1 x1.1 x1.2))), (4, (.d (.int .i64 x2))), (3, (.d (.int .i64 x3)))], [])
noncomputable def spec_l7layoutsOk_j6 (x0 : Sl) (x1 : Int) (x2 : Int) (x3 : Int) (x4 : Bool) : Res := (fun (p : Env × Mem) => evI cx 53 0 6 p.1 p.2) ([(0, (.d (.sl false 1 x0.1 x0.2))), (4, (.d (.int .i64 x1))), (3, (.d (.int .i64 x2))), (5, (.d (.int .i64 x3))), (93, (.d (.bool x4)))], [])
theorem spec_l7layoutsOk_eq (x0 : Sl) : spec_l7layoutsOk x0 =
  oite (decide (((x0.1 : Nat) : Int) > (20 : Int)))
    (some ((.d (.bool false)), []))
    (spec_l7layoutsOk_j1 x0 (0 : Int)) := (evF_eq ..).trans (by kernel_rfl)
-- a loop's head
theorem spec_l7layoutsOk_j1_eq (x0 : Sl) (x1 : Int) : spec_l7layoutsOk_j1 x0 x1 =
  oite (decide (x1 < ((x0.1 : Nat) : Int)))
    (oat [(.sl 1)] x0.1 x0.2 x1 fun (t0 : (Sl × Unit)) =>
    oite (decide (((t0.1.1 : Nat) : Int) < (1 : Int)))
      (spec_l7layoutsOk_j3 x0 x1 true)
      (oat [(.sl 1)] x0.1 x0.2 x1 fun (t1 : (Sl × Unit)) =>
      spec_l7layoutsOk_j3 x0 x1 (decide (((t1.1.1 : Nat) : Int) > (5 : Int)))))
    (some ((.d (.bool true)), [])) := (evI_eq ..).trans (by kernel_rfl)
theorem spec_l7layoutsOk_j3_eq (x0 : Sl) (x1 : Int) (x2 : Bool) : spec_l7layoutsOk_j3 x0 x1 x2 =
  oite x2
    (some ((.d (.bool false)), []))
    (spec_l7layoutsOk_j2 x0 x1) := (evI_eq ..).trans (by kernel_rfl)
theorem spec_l7layoutsOk_j2_eq (x0 : Sl) (x1 : Int) : spec_l7layoutsOk_j2 x0 x1 =
  spec_l7layoutsOk_j4 x0 (0 : Int) x1 := (evI_eq ..).trans (by kernel_rfl)
-- a loop's head
theorem spec_l7layoutsOk_j4_eq (x0 : Sl) (x1 : Int) (x2 : Int) : spec_l7layoutsOk_j4 x0 x1 x2 =
  oat [(.sl 1)] x0.1 x0.2 x2 fun (t2 : (Sl × Unit)) =>
  oite (decide (x1 < ((t2.1.1 : Nat) : Int)))
    (oat [(.sl 1)] x0.1 x0.2 x2 fun (t3 : (Sl × Unit)) =>
    oat [(.sl 3)] t3.1.1 t3.1.2 x1 fun (t4 : (Sl × Unit)) =>
    oite (decide (((t4.1.1 : Nat) : Int) > (3 : Int)))
      (some ((.d (.bool false)), []))
      (spec_l7layoutsOk_j5 (0 : Int) x0 x1 x2))
    (spec_l7layoutsOk_j1 x0 (w64 (x2 + (1 : Int)))) := (evI_eq ..).trans (by kernel_rfl)
-- a loop's head
theorem spec_l7layoutsOk_j5_eq (x0 : Int) (x1 : Sl) (x2 : Int) (x3 : Int) : spec_l7layoutsOk_j5 x0 x1 x2 x3 =
  oat [(.sl 1)] x1.1 x1.2 x3 fun (t5 : (Sl × Unit)) =>
  oat [(.sl 3)] t5.1.1 t5.1.2 x2 fun (t6 : (Sl × Unit)) =>
  oite (decide (x0 < ((t6.1.1 : Nat) : Int)))
    (oat [(.sl 1)] x1.1 x1.2 x3 fun (t7 : (Sl × Unit)) =>
    oat [(.sl 3)] t7.1.1 t7.1.2 x2 fun (t8 : (Sl × Unit)) =>
    oat sh_Ty t8.1.1 t8.1.2 x0 fun (t9 : T_Ty) =>
    ocall (.m (.one .bool)) [] (spec_TyOk t9) fun (r10 : Bool) (m11 : Unit) =>
    oite (!r10)
      (spec_l7layoutsOk_j6 x1 x2 x3 x0 true)
      (oat [(.sl 1)] x1.1 x1.2 x3 fun (t12 : (Sl × Unit)) =>
      oat [(.sl 3)] t12.1.1 t12.1.2 x2 fun (t13 : (Sl × Unit)) =>
      oat sh_Ty t13.1.1 t13.1.2 x0 fun (t14 : T_Ty) =>
      ocall (.m (.one .bool)) [] (spec_l7closed t14 ((x1.1 : Nat) : Int)) fun (r15 : Bool) (m16 : Unit) =>
      spec_l7layoutsOk_j6 x1 x2 x3 x0 (!r15)))
    (spec_l7layoutsOk_j4 x1 (w64 (x2 + (1 : Int))) x3) := (evI_eq ..).trans (by kernel_rfl)
theorem spec_l7layoutsOk_j6_eq (x0 : Sl) (x1 : Int) (x2 : Int) (x3 : Int) (x4 : Bool) : spec_l7layoutsOk_j6 x0 x1 x2 x3 x4 =
  oite x4
    (some ((.d (.bool false)), []))
    (spec_l7layoutsOk_j5 (w64 (x3 + (1 : Int))) x0 x1 x2) := (evI_eq ..).trans (by kernel_rfl)
noncomputable def spec_l8tysOk_j1 (x0 : Int) (x1 : Int) (x2 : Sl) : Res := (fun (p : Env × Mem) => evI cx 54 0 1 p.1 p.2) ([(7, (.d (.int .i64 x0))), (2, (.d (.int .i64 x1))), (0, (.d (.sl false 3 x2.1 x2.2)))], [])
noncomputable def spec_l8tysOk_j2 (x0 : Int) (x1 : Sl) (x2 : Int) (x3 : Bool) : Res := (fun (p : Env × Mem) => evI cx 54 0 2 p.1 p.2) ([(2, (.d (.int .i64 x0))), (0, (.d (.sl false 3 x1.1 x1.2))), (7, (.d (.int .i64 x2))), (32, (.d (.bool x3)))], [])
theorem spec_l8tysOk_eq (x0 : Sl) (x1 : Int) (x2 : Int) : spec_l8tysOk x0 x1 x2 =
  oite (decide (((x0.1 : Nat) : Int) > x1))
    (some ((.d (.bool false)), []))
    (spec_l8tysOk_j1 (0 : Int) x2 x0) := (evF_eq ..).trans (by kernel_rfl)
-- a loop's head
theorem spec_l8tysOk_j1_eq (x0 : Int) (x1 : Int) (x2 : Sl) : spec_l8tysOk_j1 x0 x1 x2 =
  oite (decide (x0 < ((x2.1 : Nat) : Int)))
    (oat sh_Ty x2.1 x2.2 x0 fun (t0 : T_Ty) =>
    ocall (.m (.one .bool)) [] (spec_TyOk t0) fun (r1 : Bool) (m2 : Unit) =>
    oite (!r1)
      (spec_l8tysOk_j2 x1 x2 x0 true)
      (oat sh_Ty x2.1 x2.2 x0 fun (t3 : T_Ty) =>
      ocall (.m (.one .bool)) [] (spec_l7closed t3 x1) fun (r4 : Bool) (m5 : Unit) =>
      spec_l8tysOk_j2 x1 x2 x0 (!r4)))
    (some ((.d (.bool true)), [])) := (evI_eq ..).trans (by kernel_rfl)
theorem spec_l8tysOk_j2_eq (x0 : Int) (x1 : Sl) (x2 : Int) (x3 : Bool) : spec_l8tysOk_j2 x0 x1 x2 x3 =
  oite x3
    (some ((.d (.bool false)), []))
    (spec_l8tysOk_j1 (w64 (x2 + (1 : Int))) x0 x1) := (evI_eq ..).trans (by kernel_rfl)
theorem spec_l6fun_eq (x0 : T_Ty) (x1 : T_Ty) : spec_l6fun x0 x1 =
  some ((.agg (LS.encs sh_Ty ((4 : Int), (0 : Int), (2, ((vDs (LS.encs sh_Ty x0)) :: ((vDs (LS.encs sh_Ty x1)) :: []))), ()))), []) := (evF_eq ..).trans (by kernel_rfl)
noncomputable def spec_InsOk_j2 (x0 : Bool) (x1 : T_Ins) : Res := (fun (p : Env × Mem) => evI cx 56 0 2 p.1 p.2) ([(1, (.ptr 0 0)), (12, (.d (.bool x0)))], [(.box (LS.encs sh_Ins x1))])
noncomputable def spec_InsOk_j1 (x0 : T_Ins) : Res := (fun (p : Env × Mem) => evI cx 56 0 1 p.1 p.2) ([(1, (.ptr 0 0))], [(.box (LS.encs sh_Ins x0))])
noncomputable def spec_InsOk_j3 (x0 : Int) (x1 : T_Ins) : Res := (fun (p : Env × Mem) => evI cx 56 0 3 p.1 p.2) ([(1, (.ptr 0 0)), (3, (.d (.int .i64 x0)))], [(.box (LS.encs sh_Ins x1))])
noncomputable def spec_InsOk_j4 (x0 : Int) (x1 : Bool) (x2 : T_Ins) : Res := (fun (p : Env × Mem) => evI cx 56 0 4 p.1 p.2) ([(1, (.ptr 0 0)), (3, (.d (.int .i64 x0))), (43, (.d (.bool x1)))], [(.box (LS.encs sh_Ins x2))])
noncomputable def spec_InsOk_j6 (x0 : Bool) (x1 : T_Ins) : Res := (fun (p : Env × Mem) => evI cx 56 0 6 p.1 p.2) ([(1, (.ptr 0 0)), (91, (.d (.bool x0)))], [(.box (LS.encs sh_Ins x1))])
noncomputable def spec_InsOk_j5 (x0 : T_Ins) : Res := (fun (p : Env × Mem) => evI cx 56 0 5 p.1 p.2) ([(1, (.ptr 0 0))], [(.box (LS.encs sh_Ins x0))])
noncomputable def spec_InsOk_j7 (x0 : Int) (x1 : T_Ins) : Res := (fun (p : Env × Mem) => evI cx 56 0 7 p.1 p.2) ([(4, (.d (.int .i64 x0))), (1, (.ptr 0 0))], [(.box (LS.encs sh_Ins x1))])
noncomputable def spec_InsOk_j8 (x0 : Int) (x1 : Bool) (x2 : T_Ins) : Res := (fun (p : Env × Mem) => evI cx 56 0 8 p.1 p.2) ([(1, (.ptr 0 0)), (4, (.d (.int .i64 x0))), (112, (.d (.bool x1)))], [(.box (LS.encs sh_Ins x2))])
theorem spec_InsOk_eq (x0 : T_Ins) : spec_InsOk x0 =
  oite (decide (x0.1 < (0 : Int)))
    (spec_InsOk_j2 true x0)
    (spec_InsOk_j2 (decide (x0.1 > (31 : Int))) x0) := (evF_eq ..).trans (by kernel_rfl)
theorem spec_InsOk_j2_eq (x0 : Bool) (x1 : T_Ins) : spec_InsOk_j2 x0 x1 =
  oite x0
    (some ((.d (.bool false)), []))
    (spec_InsOk_j1 x1) := (evI_eq ..).trans (by kernel_rfl)
theorem spec_InsOk_j1_eq (x0 : T_Ins) : spec_InsOk_j1 x0 =
  ocall (.m (.one (.int .i64))) [] (spec_l8parts x0.1) fun (r0 : Int) (m1 : Unit) =>
  oite (x0.1 == (1 : Int))
    (ocall (.m (.one .bool)) [] (spec_l5intOk x0.2.1) fun (r2 : Bool) (m3 : Unit) =>
    oite (!r2)
      (some ((.d (.bool false)), []))
      (spec_InsOk_j3 r0 x0))
    (oite (decide (x0.2.1 < (0 : Int)))
      (spec_InsOk_j4 r0 true x0)
      (oite (decide (x0.2.1 > (2147483647 : Int)))
        (spec_InsOk_j4 r0 true x0)
        (oite (!(x0.2.1 == (0 : Int)))
          (oite (r0 == (0 : Int))
            (spec_InsOk_j4 r0 true x0)
            (spec_InsOk_j4 r0 (r0 == (4 : Int)) x0))
          (spec_InsOk_j4 r0 false x0)))) := (evI_eq ..).trans (by kernel_rfl)
theorem spec_InsOk_j3_eq (x0 : Int) (x1 : T_Ins) : spec_InsOk_j3 x0 x1 =
  oite (decide (x1.2.2.1 < (0 : Int)))
    (spec_InsOk_j6 true x1)
    (oite (decide (x1.2.2.1 > (2147483647 : Int)))
      (spec_InsOk_j6 true x1)
      (oite (!(x1.2.2.1 == (0 : Int)))
        (oite (!(x0 == (2 : Int)))
          (spec_InsOk_j6 true x1)
          (oite (decide (((x1.2.2.2.1.1 : Nat) : Int) > (0 : Int)))
            (oite (!(x0 == (4 : Int)))
              (spec_InsOk_j6 true x1)
              (oite (decide (((x1.2.2.2.1.1 : Nat) : Int) > (20 : Int)))
                (spec_InsOk_j6 true x1)
                (oite (decide (((x1.2.2.2.2.1.1 : Nat) : Int) > (5 : Int)))
                  (spec_InsOk_j6 true x1)
                  (spec_InsOk_j6 (!((decide (((x1.2.2.2.2.1.1 : Nat) : Int) > (0 : Int))) == (x0 == (3 : Int)))) x1))))
            (oite (decide (((x1.2.2.2.1.1 : Nat) : Int) > (20 : Int)))
              (spec_InsOk_j6 true x1)
              (oite (decide (((x1.2.2.2.2.1.1 : Nat) : Int) > (5 : Int)))
                (spec_InsOk_j6 true x1)
                (spec_InsOk_j6 (!((decide (((x1.2.2.2.2.1.1 : Nat) : Int) > (0 : Int))) == (x0 == (3 : Int)))) x1)))))
        (oite (decide (((x1.2.2.2.1.1 : Nat) : Int) > (0 : Int)))
          (oite (!(x0 == (4 : Int)))
            (spec_InsOk_j6 true x1)
            (oite (decide (((x1.2.2.2.1.1 : Nat) : Int) > (20 : Int)))
              (spec_InsOk_j6 true x1)
              (oite (decide (((x1.2.2.2.2.1.1 : Nat) : Int) > (5 : Int)))
                (spec_InsOk_j6 true x1)
                (spec_InsOk_j6 (!((decide (((x1.2.2.2.2.1.1 : Nat) : Int) > (0 : Int))) == (x0 == (3 : Int)))) x1))))
          (oite (decide (((x1.2.2.2.1.1 : Nat) : Int) > (20 : Int)))
            (spec_InsOk_j6 true x1)
            (oite (decide (((x1.2.2.2.2.1.1 : Nat) : Int) > (5 : Int)))
              (spec_InsOk_j6 true x1)
              (spec_InsOk_j6 (!((decide (((x1.2.2.2.2.1.1 : Nat) : Int) > (0 : Int))) == (x0 == (3 : Int)))) x1)))))) := (evI_eq ..).trans (by kernel_rfl)
theorem spec_InsOk_j4_eq (x0 : Int) (x1 : Bool) (x2 : T_Ins) : spec_InsOk_j4 x0 x1 x2 =
  oite x1
    (some ((.d (.bool false)), []))
    (spec_InsOk_j3 x0 x2) := (evI_eq ..).trans (by kernel_rfl)
theorem spec_InsOk_j6_eq (x0 : Bool) (x1 : T_Ins) : spec_InsOk_j6 x0 x1 =
  oite x0
    (some ((.d (.bool false)), []))
    (spec_InsOk_j5 x1) := (evI_eq ..).trans (by kernel_rfl)
theorem spec_InsOk_j5_eq (x0 : T_Ins) : spec_InsOk_j5 x0 =
  spec_InsOk_j7 (0 : Int) x0 := (evI_eq ..).trans (by kernel_rfl)
-- a loop's head
theorem spec_InsOk_j7_eq (x0 : Int) (x1 : T_Ins) : spec_InsOk_j7 x0 x1 =
  oite (decide (x0 < ((x1.2.2.2.2.1.1 : Nat) : Int)))
    (oat [(.int .i64)] x1.2.2.2.2.1.1 x1.2.2.2.2.1.2 x0 fun (t4 : (Int × Unit)) =>
    oite (decide (t4.1 < (0 : Int)))
      (spec_InsOk_j8 x0 true x1)
      (oat [(.int .i64)] x1.2.2.2.2.1.1 x1.2.2.2.2.1.2 x0 fun (t5 : (Int × Unit)) =>
      spec_InsOk_j8 x0 (decide (t5.1 > (2147483647 : Int))) x1))
    (ocall (.m (.one .bool)) [] (spec_l5lit x1.2.2.2.1) fun (r6 : Bool) (m7 : Unit) =>
    some ((.d (.bool r6)), [])) := (evI_eq ..).trans (by kernel_rfl)
theorem spec_InsOk_j8_eq (x0 : Int) (x1 : Bool) (x2 : T_Ins) : spec_InsOk_j8 x0 x1 x2 =
  oite x1
    (some ((.d (.bool false)), []))
    (spec_InsOk_j7 (w64 (x0 + (1 : Int))) x2) := (evI_eq ..).trans (by kernel_rfl)
noncomputable def spec_PutNum_o_j2 (x0 : Int) (x1 : Bool) (x2 : Sl) (x3 : Sl) : Res := (fun (p : Env × Mem) => evI cx 57 1 2 p.1 p.2) ([(5, (.own 1)), (1, (.d (.int .i64 x0))), (14, (.d (.bool x1)))], [(.row 1 x2.1 false false x2.2), (.row 1 x3.1 false false x3.2)])
noncomputable def spec_PutNum_o_j1 (x0 : Int) (x1 : Sl) (x2 : Sl) : Res := (fun (p : Env × Mem) => evI cx 57 1 1 p.1 p.2) ([(1, (.d (.int .i64 x0))), (5, (.own 1))], [(.row 1 x1.1 false false x1.2), (.row 1 x2.1 false false x2.2)])
noncomputable def spec_PutNum_o_j3 (x0 : Int) (x1 : Sl) (x2 : Sl) : Res := (fun (p : Env × Mem) => evI cx 57 1 3 p.1 p.2) ([(1, (.d (.int .i64 x0))), (5, (.own 1))], [(.row 1 x1.1 false false x1.2), (.row 1 x2.1 false false x2.2)])
noncomputable def spec_PutNum_o_j3v1 (x0 : Int) (x1 : Sl) (x2 : Sl) : Res := (fun (p : Env × Mem) => evI cx 57 1 3 p.1 p.2) ([(1, (.d (.int .i64 x0))), (5, (.own 1))], [(.row 1 x1.1 false false x1.2), (.row 1 x2.1 false true x2.2)])
theorem spec_PutNum_o_eq (x0 : Int) (x1 : Sl) : spec_PutNum_o x0 x1 =
  oguard (decide ((x1.1 * 1) ≤ 140737488351232)) (
  oite (decide (x0 < (0 : Int)))
    (spec_PutNum_o_j2 x0 true x1 x1)
    (spec_PutNum_o_j2 x0 (decide (x0 > (2147483647 : Int))) x1 x1)) := (evF_eq ..).trans (by kernel_rfl)
theorem spec_PutNum_o_j2_eq (x0 : Int) (x1 : Bool) (x2 : Sl) (x3 : Sl) : spec_PutNum_o_j2 x0 x1 x2 x3 =
  oite x1
    (some ((.own 1), [(.row 1 x2.1 false false x2.2), (.row 1 x3.1 false false x3.2)]))
    (spec_PutNum_o_j1 x0 x2 x3) := (evI_eq ..).trans (by kernel_rfl)
theorem spec_PutNum_o_j1_eq (x0 : Int) (x1 : Sl) (x2 : Sl) : spec_PutNum_o_j1 x0 x1 x2 =
  spec_PutNum_o_j3 x0 x1 x2 := (evI_eq ..).trans (by kernel_rfl)
-- a loop's head
theorem spec_PutNum_o_j3_eq (x0 : Int) (x1 : Sl) (x2 : Sl) : spec_PutNum_o_j3 x0 x1 x2 =
  oite (decide (x0 > (127 : Int)))
    (oguard true (
    oguard (decide (((x2.1 + 1) * 1) ≤ 140737488351232)) (
    olet (x2.2 ++ (((D.int .u8 (IntKind.wrap .u8 (w64 ((128 : Int) + (Int.tmod x0 (128 : Int)))))) :: []) :: [])) fun (e0 : (List (List D))) =>
    oguard true (
    spec_PutNum_o_j3v1 (w64 (Int.tdiv x0 (128 : Int))) x1 ((x2.1 + 1), e0)))))
    (oguard (decide (((x2.1 + 1) * 1) ≤ 140737488351232)) (
    olet (x2.2 ++ (((D.int .u8 (IntKind.wrap .u8 x0)) :: []) :: [])) fun (e1 : (List (List D))) =>
    some ((.own 1), [(.row 1 x1.1 false false x1.2), (.row 1 (x2.1 + 1) false true e1)]))) := (evI_eq ..).trans (by kernel_rfl)
-- a loop's head
theorem spec_PutNum_o_j3v1_eq (x0 : Int) (x1 : Sl) (x2 : Sl) : spec_PutNum_o_j3v1 x0 x1 x2 =
  oite (decide (x0 > (127 : Int)))
    (oguard true (
    oguard (decide (((x2.1 + 1) * 1) ≤ 140737488351232)) (
    olet (x2.2 ++ (((D.int .u8 (IntKind.wrap .u8 (w64 ((128 : Int) + (Int.tmod x0 (128 : Int)))))) :: []) :: [])) fun (e2 : (List (List D))) =>
    oguard true (
    spec_PutNum_o_j3v1 (w64 (Int.tdiv x0 (128 : Int))) x1 ((x2.1 + 1), e2)))))
    (oguard (decide (((x2.1 + 1) * 1) ≤ 140737488351232)) (
    olet (x2.2 ++ (((D.int .u8 (IntKind.wrap .u8 x0)) :: []) :: [])) fun (e3 : (List (List D))) =>
    some ((.own 1), [(.row 1 x1.1 false false x1.2), (.row 1 (x2.1 + 1) false true e3)]))) := (evI_eq ..).trans (by kernel_rfl)
noncomputable def spec_l8tys_o_j1 (x0 : Int) (x1 : Sl) (x2 : Sl) (x3 : Sl) : Res := (fun (p : Env × Mem) => evI cx 58 1 1 p.1 p.2) ([(5, (.d (.int .i64 x0))), (1, (.d (.sl false 3 x1.1 x1.2))), (0, (.own 1))], [(.row 1 x2.1 false false x2.2), (.row 1 x3.1 false true x3.2)])
theorem spec_l8tys_o_eq (x0 : Sl) (x1 : Sl) : spec_l8tys_o x0 x1 =
  ocall (.m (.one (.own (0 + (List.length ((Ent.row 1 x1.1 false false x1.2) :: [])))))) [(.row 1 false false), (.row 1 false true)] (spec_PutNum_o ((x0.1 : Nat) : Int) x1) fun (r0 : Unit) (m1 : (Sl × (Sl × Unit))) =>
  spec_l8tys_o_j1 (0 : Int) x0 m1.1 m1.2.1 := (evF_eq ..).trans (by kernel_rfl)
-- a loop's head
theorem spec_l8tys_o_j1_eq (x0 : Int) (x1 : Sl) (x2 : Sl) (x3 : Sl) : spec_l8tys_o_j1 x0 x1 x2 x3 =
  oite (decide (x0 < ((x1.1 : Nat) : Int)))
    (oat sh_Ty x1.1 x1.2 x0 fun (t2 : T_Ty) =>
    ocall (.m (.one (.own 0))) [(.row 1 false true)] (spec_l3bytes_o t2 x3) fun (r3 : Unit) (m4 : (Sl × Unit)) =>
    spec_l8tys_o_j1 (w64 (x0 + (1 : Int))) x1 x2 m4.1)
    (some ((.own 0), [(.row 1 x3.1 false true x3.2)])) := (evI_eq ..).trans (by kernel_rfl)
noncomputable def spec_l3bytes_o_j2 (x0 : Bool) (x1 : Sl) (x2 : T_Ty) : Res := (fun (p : Env × Mem) => evI cx 59 1 2 p.1 p.2) ([(3, (.ptr 1 0)), (0, (.own 0)), (19, (.d (.bool x0)))], [(.row 1 x1.1 false true x1.2), (.box (LS.encs sh_Ty x2))])
noncomputable def spec_l3bytes_o_j1 (x0 : Sl) (x1 : T_Ty) : Res := (fun (p : Env × Mem) => evI cx 59 1 1 p.1 p.2) ([(3, (.ptr 1 0)), (0, (.own 0))], [(.row 1 x0.1 false true x0.2), (.box (LS.encs sh_Ty x1))])
noncomputable def spec_l3bytes_o_j3 (x0 : Sl) (x1 : T_Ty) : Res := (fun (p : Env × Mem) => evI cx 59 1 3 p.1 p.2) ([(3, (.ptr 1 0)), (0, (.own 0))], [(.row 1 x0.1 false true x0.2), (.box (LS.encs sh_Ty x1))])
noncomputable def spec_l3bytes_o_j4 (x0 : Int) (x1 : Sl) (x2 : T_Ty) : Res := (fun (p : Env × Mem) => evI cx 59 1 4 p.1 p.2) ([(5, (.d (.int .i64 x0))), (3, (.ptr 1 0)), (0, (.own 0))], [(.row 1 x1.1 false true x1.2), (.box (LS.encs sh_Ty x2))])
theorem spec_l3bytes_o_eq (x0 : T_Ty) (x1 : Sl) : spec_l3bytes_o x0 x1 =
  oguard (decide (((x1.1 + 1) * 1) ≤ 140737488351232)) (
  olet (x1.2 ++ (((D.int .u8 (IntKind.wrap .u8 x0.1)) :: []) :: [])) fun (e0 : (List (List D))) =>
  oite (x0.1 == (6 : Int))
    (spec_l3bytes_o_j2 true ((x1.1 + 1), e0) x0)
    (spec_l3bytes_o_j2 (x0.1 == (7 : Int)) ((x1.1 + 1), e0) x0)) := (evF_eq ..).trans (by kernel_rfl)
theorem spec_l3bytes_o_j2_eq (x0 : Bool) (x1 : Sl) (x2 : T_Ty) : spec_l3bytes_o_j2 x0 x1 x2 =
  oite x0
    (ocall (.m (.one (.own (0 + (List.length ((Ent.row 1 x1.1 false false x1.2) :: [])))))) [(.row 1 false false), (.row 1 false true)] (spec_PutNum_o x2.2.1 x1) fun (r1 : Unit) (m2 : (Sl × (Sl × Unit))) =>
    spec_l3bytes_o_j1 m2.2.1 x2)
    (spec_l3bytes_o_j1 x1 x2) := (evI_eq ..).trans (by kernel_rfl)
theorem spec_l3bytes_o_j1_eq (x0 : Sl) (x1 : T_Ty) : spec_l3bytes_o_j1 x0 x1 =
  oite (x1.1 == (6 : Int))
    (ocall (.m (.one (.own (0 + (List.length ((Ent.row 1 x0.1 false false x0.2) :: [])))))) [(.row 1 false false), (.row 1 false true)] (spec_PutNum_o ((x1.2.2.1.1 : Nat) : Int) x0) fun (r3 : Unit) (m4 : (Sl × (Sl × Unit))) =>
    spec_l3bytes_o_j3 m4.2.1 x1)
    (spec_l3bytes_o_j3 x0 x1) := (evI_eq ..).trans (by kernel_rfl)
theorem spec_l3bytes_o_j3_eq (x0 : Sl) (x1 : T_Ty) : spec_l3bytes_o_j3 x0 x1 =
  spec_l3bytes_o_j4 (0 : Int) x0 x1 := (evI_eq ..).trans (by kernel_rfl)
-- a loop's head
theorem spec_l3bytes_o_j4_eq (x0 : Int) (x1 : Sl) (x2 : T_Ty) : spec_l3bytes_o_j4 x0 x1 x2 =
  oite (decide (x0 < ((x2.2.2.1.1 : Nat) : Int)))
    (oat sh_Ty x2.2.2.1.1 x2.2.2.1.2 x0 fun (t5 : T_Ty) =>
    ocall (.m (.one (.own 0))) [(.row 1 false true)] (spec_l3bytes_o t5 x1) fun (r6 : Unit) (m7 : (Sl × Unit)) =>
    spec_l3bytes_o_j4 (w64 (x0 + (1 : Int))) m7.1 x2)
    (some ((.own 0), [(.row 1 x1.1 false true x1.2)])) := (evI_eq ..).trans (by kernel_rfl)
noncomputable def spec_l8ins_o_j1 (x0 : Int) (x1 : Sl) (x2 : T_Ins) (x3 : Sl) : Res := (fun (p : Env × Mem) => evI cx 60 1 1 p.1 p.2) ([(5, (.d (.int .i64 x0))), (3, (.ptr 1 0)), (0, (.own 2))], [(.row 1 x1.1 false true x1.2), (.box (LS.encs sh_Ins x2)), (.row 1 x3.1 false true x3.2)])
theorem spec_l8ins_o_eq (x0 : T_Ins) (x1 : Sl) : spec_l8ins_o x0 x1 =
  oguard (decide (((x1.1 + 1) * 1) ≤ 140737488351232)) (
  olet (x1.2 ++ (((D.int .u8 (IntKind.wrap .u8 x0.1)) :: []) :: [])) fun (e0 : (List (List D))) =>
  ocall (.m (.one (.int .i64))) [] (spec_l8parts x0.1) fun (r1 : Int) (m2 : Unit) =>
  oite (r1 == (1 : Int))
    (oite (x0.1 == (1 : Int))
      (ocall (.m (.one (.int .i64))) [] (spec_Fold x0.2.1) fun (r3 : Int) (m4 : Unit) =>
      ocall (.m (.one (.own (0 + (List.length ((Ent.row 1 (x1.1 + 1) false false e0) :: [])))))) [(.row 1 false false), (.row 1 false true)] (spec_PutNum_o r3 ((x1.1 + 1), e0)) fun (r5 : Unit) (m6 : (Sl × (Sl × Unit))) =>
      some ((.own 0), [(.row 1 m6.2.1.1 false true m6.2.1.2)]))
      (ocall (.m (.one (.own (0 + (List.length ((Ent.row 1 (x1.1 + 1) false false e0) :: [])))))) [(.row 1 false false), (.row 1 false true)] (spec_PutNum_o x0.2.1 ((x1.1 + 1), e0)) fun (r7 : Unit) (m8 : (Sl × (Sl × Unit))) =>
      some ((.own 0), [(.row 1 m8.2.1.1 false true m8.2.1.2)])))
    (oite (r1 == (2 : Int))
      (ocall (.m (.one (.own (0 + (List.length ((Ent.row 1 (x1.1 + 1) false false e0) :: [])))))) [(.row 1 false false), (.row 1 false true)] (spec_PutNum_o x0.2.1 ((x1.1 + 1), e0)) fun (r9 : Unit) (m10 : (Sl × (Sl × Unit))) =>
      osame (α := List V) [(.d (.int .i64 x0.2.2.1))] [(.d (.int .i64 x0.2.2.1))] (
      ocall (.m (.one (.own (0 + (List.length ((Ent.row 1 m10.2.1.1 false false m10.2.1.2) :: [])))))) [(.row 1 false false), (.row 1 false true)] (spec_PutNum_o x0.2.2.1 m10.2.1) fun (r11 : Unit) (m12 : (Sl × (Sl × Unit))) =>
      some ((.own 0), [(.row 1 m12.2.1.1 false true m12.2.1.2)])))
      (oite (r1 == (3 : Int))
        (ocall (.m (.one (.own (0 + (List.length ((Ent.row 1 (x1.1 + 1) false false e0) :: [])))))) [(.row 1 false false), (.row 1 false true)] (spec_PutNum_o x0.2.1 ((x1.1 + 1), e0)) fun (r13 : Unit) (m14 : (Sl × (Sl × Unit))) =>
        osame (α := List V) [(.d (.sl false 1 x0.2.2.2.2.1.1 x0.2.2.2.2.1.2))] [(.d (.sl false 1 x0.2.2.2.2.1.1 x0.2.2.2.2.1.2))] (
        osame (α := List V) [(.d (.int .i64 ((x0.2.2.2.2.1.1 : Nat) : Int)))] [(.d (.int .i64 ((x0.2.2.2.2.1.1 : Nat) : Int)))] (
        ocall (.m (.one (.own (0 + (List.length ((Ent.row 1 m14.2.1.1 false false m14.2.1.2) :: [])))))) [(.row 1 false false), (.row 1 false true)] (spec_PutNum_o ((x0.2.2.2.2.1.1 : Nat) : Int) m14.2.1) fun (r15 : Unit) (m16 : (Sl × (Sl × Unit))) =>
        spec_l8ins_o_j1 (0 : Int) m14.1 x0 m16.2.1)))
        (oite (r1 == (4 : Int))
          (ocall (.m (.one (.own (0 + (List.length ((Ent.row 1 (x1.1 + 1) false false e0) :: [])))))) [(.row 1 false false), (.row 1 false true)] (spec_PutText_o x0.2.2.2.1 ((x1.1 + 1), e0)) fun (r17 : Unit) (m18 : (Sl × (Sl × Unit))) =>
          some ((.own 0), [(.row 1 m18.2.1.1 false true m18.2.1.2)]))
          (some ((.own 0), [(.row 1 (x1.1 + 1) false true e0)])))))) := (evF_eq ..).trans (by kernel_rfl)
-- a loop's head
theorem spec_l8ins_o_j1_eq (x0 : Int) (x1 : Sl) (x2 : T_Ins) (x3 : Sl) : spec_l8ins_o_j1 x0 x1 x2 x3 =
  oite (decide (x0 < ((x2.2.2.2.2.1.1 : Nat) : Int)))
    (oat [(.int .i64)] x2.2.2.2.2.1.1 x2.2.2.2.2.1.2 x0 fun (t19 : (Int × Unit)) =>
    ocall (.m (.one (.own (0 + (List.length ((Ent.row 1 x3.1 false false x3.2) :: [])))))) [(.row 1 false false), (.row 1 false true)] (spec_PutNum_o t19.1 x3) fun (r20 : Unit) (m21 : (Sl × (Sl × Unit))) =>
    spec_l8ins_o_j1 (w64 (x0 + (1 : Int))) x1 x2 m21.2.1)
    (some ((.own 0), [(.row 1 x3.1 false true x3.2)])) := (evI_eq ..).trans (by kernel_rfl)
noncomputable def impl_layoutsOk_j1 (x0 : Int) (x1 : Sl) (x2 : Int) (x3 : Sl) : Res := (fun (p : Env × Mem) => evI cx 63 0 1 p.1 p.2) ([(1, (.ptr 0 0)), (12, (.d (.int .i64 x0))), (10, (.d (.sl false 1 x1.1 x1.2))), (11, (.d (.int .i64 x2)))], [(.box [(.d (.sl false 1 x3.1 x3.2))])])
noncomputable def impl_layoutsOk_j2 (x0 : Int) (x1 : Sl) (x2 : Sl) (x3 : Int) (x4 : Int) (x5 : Int) (x6 : Sl) : Res := (fun (p : Env × Mem) => evI cx 63 0 2 p.1 p.2) ([(24, (.d (.int .i64 x0))), (1, (.ptr 0 0)), (22, (.d (.sl false 1 x1.1 x1.2))), (10, (.d (.sl false 1 x2.1 x2.2))), (11, (.d (.int .i64 x3))), (12, (.d (.int .i64 x4))), (23, (.d (.int .i64 x5)))], [(.box [(.d (.sl false 1 x6.1 x6.2))])])
noncomputable def impl_layoutsOk_j3 (x0 : Sl) (x1 : Sl) (x2 : Int) (x3 : Int) (x4 : Int) (x5 : Int) (x6 : Bool) (x7 : Sl) : Res := (fun (p : Env × Mem) => evI cx 63 0 3 p.1 p.2) ([(1, (.ptr 0 0)), (22, (.d (.sl false 1 x0.1 x0.2))), (10, (.d (.sl false 1 x1.1 x1.2))), (11, (.d (.int .i64 x2))), (12, (.d (.int .i64 x3))), (23, (.d (.int .i64 x4))), (24, (.d (.int .i64 x5))), (35, (.d (.bool x6)))], [(.box [(.d (.sl false 1 x7.1 x7.2))])])
theorem impl_layoutsOk_eq (x0 : Sl) : impl_layoutsOk x0 =
  oite (decide (((x0.1 : Nat) : Int) > (20 : Int)))
    (some ((.d (.bool false)), []))
    (impl_layoutsOk_j1 (0 : Int) x0 ((x0.1 : Nat) : Int) x0) := (evF_eq ..).trans (by kernel_rfl)
-- a loop's head
theorem impl_layoutsOk_j1_eq (x0 : Int) (x1 : Sl) (x2 : Int) (x3 : Sl) : impl_layoutsOk_j1 x0 x1 x2 x3 =
  oite (decide (x0 < x2))
    (oat [(.sl 1)] x1.1 x1.2 x0 fun (t0 : (Sl × Unit)) =>
    ocall (.m (.one .bool)) [] (impl_within ((t0.1.1 : Nat) : Int) (1 : Int) (5 : Int)) fun (r1 : Bool) (m2 : Unit) =>
    oite (!r1)
      (some ((.d (.bool false)), []))
      (impl_layoutsOk_j2 (0 : Int) t0.1 x1 x2 x0 ((t0.1.1 : Nat) : Int) x3))
    (some ((.d (.bool true)), [])) := (evI_eq ..).trans (by kernel_rfl)
-- a loop's head
theorem impl_layoutsOk_j2_eq (x0 : Int) (x1 : Sl) (x2 : Sl) (x3 : Int) (x4 : Int) (x5 : Int) (x6 : Sl) : impl_layoutsOk_j2 x0 x1 x2 x3 x4 x5 x6 =
  oite (decide (x0 < x5))
    (oat [(.sl 3)] x1.1 x1.2 x0 fun (t3 : (Sl × Unit)) =>
    oite (decide (((t3.1.1 : Nat) : Int) > (3 : Int)))
      (impl_layoutsOk_j3 x1 x2 x3 x4 x5 x0 true x6)
      (ocall (.m (.one .bool)) [(.box [(.sl 1)])] (slices_ContainsFunc_impl_Ty_impl_Ty_Fimpl_layoutsOk_1c t3.1 x6) fun (r4 : Bool) (m5 : ((Sl × Unit) × Unit)) =>
      impl_layoutsOk_j3 x1 x2 x3 x4 x5 x0 r4 m5.1.1))
    (impl_layoutsOk_j1 (w64 (x4 + (1 : Int))) x2 x3 x6) := (evI_eq ..).trans (by kernel_rfl)
theorem impl_layoutsOk_j3_eq (x0 : Sl) (x1 : Sl) (x2 : Int) (x3 : Int) (x4 : Int) (x5 : Int) (x6 : Bool) (x7 : Sl) : impl_layoutsOk_j3 x0 x1 x2 x3 x4 x5 x6 x7 =
  oite x6
    (some ((.d (.bool false)), []))
    (impl_layoutsOk_j2 (w64 (x5 + (1 : Int))) x0 x1 x2 x3 x4 x7) := (evI_eq ..).trans (by kernel_rfl)
theorem impl_within_eq (x0 : Int) (x1 : Int) (x2 : Int) : impl_within x0 x1 x2 =
  oite (decide (x0 ≥ x1))
    (some ((.d (.bool (decide (x0 ≤ x2)))), []))
    (some ((.d (.bool false)), [])) := (evF_eq ..).trans (by kernel_rfl)
noncomputable def impl_ascending_j1 (x0 : Int) (x1 : Sl) (x2 : Int) (x3 : Int) (x4 : Sl) (x5 : Int) : Res := (fun (p : Env × Mem) => evI cx 65 0 1 p.1 p.2) ([(11, (.d (.int .i64 x0))), (0, (.d (.sl false 1 x1.1 x1.2))), (2, (.d (.int .i64 x2))), (1, (.d (.int .i64 x3))), (9, (.d (.sl false 1 x4.1 x4.2))), (10, (.d (.int .i64 x5)))], [])
noncomputable def impl_ascending_j2 (x0 : Sl) (x1 : Int) (x2 : Int) (x3 : Sl) (x4 : Int) (x5 : Int) (x6 : Bool) : Res := (fun (p : Env × Mem) => evI cx 65 0 2 p.1 p.2) ([(0, (.d (.sl false 1 x0.1 x0.2))), (2, (.d (.int .i64 x1))), (1, (.d (.int .i64 x2))), (9, (.d (.sl false 1 x3.1 x3.2))), (10, (.d (.int .i64 x4))), (11, (.d (.int .i64 x5))), (33, (.d (.bool x6)))], [])
theorem impl_ascending_eq (x0 : Sl) (x1 : Int) (x2 : Int) : impl_ascending x0 x1 x2 =
  impl_ascending_j1 (0 : Int) x0 x2 x1 x0 ((x0.1 : Nat) : Int) := (evF_eq ..).trans (by kernel_rfl)
-- a loop's head
theorem impl_ascending_j1_eq (x0 : Int) (x1 : Sl) (x2 : Int) (x3 : Int) (x4 : Sl) (x5 : Int) : impl_ascending_j1 x0 x1 x2 x3 x4 x5 =
  oite (decide (x0 < x5))
    (oat [(.int .i64)] x4.1 x4.2 x0 fun (t0 : (Int × Unit)) =>
    ocall (.m (.one .bool)) [] (impl_within t0.1 x3 x2) fun (r1 : Bool) (m2 : Unit) =>
    oite (!r1)
      (impl_ascending_j2 x1 x2 x3 x4 x5 x0 true)
      (oite (decide (x0 > (0 : Int)))
        (oat [(.int .i64)] x1.1 x1.2 (w64 (x0 - (1 : Int))) fun (t3 : (Int × Unit)) =>
        impl_ascending_j2 x1 x2 x3 x4 x5 x0 (decide (t3.1 ≥ t0.1)))
        (impl_ascending_j2 x1 x2 x3 x4 x5 x0 false)))
    (some ((.d (.bool true)), [])) := (evI_eq ..).trans (by kernel_rfl)
theorem impl_ascending_j2_eq (x0 : Sl) (x1 : Int) (x2 : Int) (x3 : Sl) (x4 : Int) (x5 : Int) (x6 : Bool) : impl_ascending_j2 x0 x1 x2 x3 x4 x5 x6 =
  oite x6
    (some ((.d (.bool false)), []))
    (impl_ascending_j1 (w64 (x5 + (1 : Int))) x0 x1 x2 x3 x4) := (evI_eq ..).trans (by kernel_rfl)
theorem slices_ContainsFunc_impl_Block_impl_Block_Fimpl_formOk_1c_eq (x0 : Sl) (x1 : T_Program) : slices_ContainsFunc_impl_Block_impl_Block_Fimpl_formOk_1c x0 x1 =
  ocall (.m (.one (.int .i64))) [(.box sh_Program)] (slices_IndexFunc_impl_Block_impl_Block_Fimpl_formOk_1c x0 x1) fun (r0 : Int) (m1 : (T_Program × Unit)) =>
  some ((.d (.bool (decide (r0 ≥ (0 : Int))))), [(.box (LS.encs sh_Program m1.1))]) := (evF_eq ..).trans (by kernel_rfl)
noncomputable def impl_PutNum_o_j1 (x0 : Int) (x1 : Sl) (x2 : Sl) : Res := (fun (p : Env × Mem) => evI cx 69 1 1 p.1 p.2) ([(1, (.d (.int .i64 x0))), (5, (.own 1))], [(.row 1 x1.1 false false x1.2), (.row 1 x2.1 false true x2.2)])
theorem impl_PutNum_o_eq (x0 : Int) (x1 : Sl) : impl_PutNum_o x0 x1 =
  ocall (.m (.one (.own (0 + (List.length ((Ent.row 1 x1.1 false false x1.2) :: [])))))) [(.row 1 false false), (.row 1 false true)] (slices_Clone_byte_byte_o x1) fun (r0 : Unit) (m1 : (Sl × (Sl × Unit))) =>
  ocall (.m (.one .bool)) [] (impl_within x0 (0 : Int) (2147483647 : Int)) fun (r2 : Bool) (m3 : Unit) =>
  oite (!r2)
    (some ((.own 1), [(.row 1 m1.1.1 false false m1.1.2), (.row 1 m1.2.1.1 false true m1.2.1.2)]))
    (impl_PutNum_o_j1 x0 m1.1 m1.2.1) := (evF_eq ..).trans (by kernel_rfl)
-- a loop's head
theorem impl_PutNum_o_j1_eq (x0 : Int) (x1 : Sl) (x2 : Sl) : impl_PutNum_o_j1 x0 x1 x2 =
  oite (decide (x0 ≥ (128 : Int)))
    (oguard true (
    oguard (decide (((x2.1 + 1) * 1) ≤ 140737488351232)) (
    olet (x2.2 ++ (((D.int .u8 (IntKind.wrap .u8 (((BitVec.toNat ((BitVec.ofInt 8 (IntKind.wrap .u8 (Int.tmod x0 (128 : Int)))) ||| (BitVec.ofInt 8 (128 : Int)))) : Nat) : Int))) :: []) :: [])) fun (e4 : (List (List D))) =>
    oguard true (
    impl_PutNum_o_j1 (Int.fdiv x0 (128 : Int)) x1 ((x2.1 + 1), e4)))))
    (oguard (decide (((x2.1 + 1) * 1) ≤ 140737488351232)) (
    olet (x2.2 ++ (((D.int .u8 (IntKind.wrap .u8 x0)) :: []) :: [])) fun (e5 : (List (List D))) =>
    some ((.own 1), [(.row 1 x1.1 false false x1.2), (.row 1 (x2.1 + 1) false true e5)]))) := (evI_eq ..).trans (by kernel_rfl)
noncomputable def impl_putNums_o_j1 (x0 : Int) (x1 : Sl) (x2 : Int) (x3 : Sl) (x4 : Sl) : Res := (fun (p : Env × Mem) => evI cx 71 1 1 p.1 p.2) ([(13, (.d (.int .i64 x0))), (0, (.own 1)), (11, (.d (.sl false 1 x1.1 x1.2))), (12, (.d (.int .i64 x2)))], [(.row 1 x3.1 false false x3.2), (.row 1 x4.1 false true x4.2)])
theorem impl_putNums_o_eq (x0 : Sl) (x1 : Sl) : impl_putNums_o x0 x1 =
  ocall (.m (.one (.own (0 + (List.length ((Ent.row 1 x1.1 false false x1.2) :: [])))))) [(.row 1 false false), (.row 1 false true)] (impl_PutNum_o ((x0.1 : Nat) : Int) x1) fun (r0 : Unit) (m1 : (Sl × (Sl × Unit))) =>
  impl_putNums_o_j1 (0 : Int) x0 ((x0.1 : Nat) : Int) m1.1 m1.2.1 := (evF_eq ..).trans (by kernel_rfl)
-- a loop's head
theorem impl_putNums_o_j1_eq (x0 : Int) (x1 : Sl) (x2 : Int) (x3 : Sl) (x4 : Sl) : impl_putNums_o_j1 x0 x1 x2 x3 x4 =
  oite (decide (x0 < x2))
    (oat [(.int .i64)] x1.1 x1.2 x0 fun (t2 : (Int × Unit)) =>
    ocall (.m (.one (.own (0 + (List.length ((Ent.row 1 x4.1 false false x4.2) :: [])))))) [(.row 1 false false), (.row 1 false true)] (impl_PutNum_o t2.1 x4) fun (r3 : Unit) (m4 : (Sl × (Sl × Unit))) =>
    impl_putNums_o_j1 (w64 (x0 + (1 : Int))) x1 x2 x3 m4.2.1)
    (some ((.own 0), [(.row 1 x4.1 false true x4.2)])) := (evI_eq ..).trans (by kernel_rfl)
noncomputable def impl_putTys_o_j1 (x0 : Int) (x1 : Sl) (x2 : Int) (x3 : Sl) (x4 : Sl) : Res := (fun (p : Env × Mem) => evI cx 70 1 1 p.1 p.2) ([(13, (.d (.int .i64 x0))), (0, (.own 1)), (11, (.d (.sl false 3 x1.1 x1.2))), (12, (.d (.int .i64 x2)))], [(.row 1 x3.1 false false x3.2), (.row 1 x4.1 false true x4.2)])
theorem impl_putTys_o_eq (x0 : Sl) (x1 : Sl) : impl_putTys_o x0 x1 =
  ocall (.m (.one (.own (0 + (List.length ((Ent.row 1 x1.1 false false x1.2) :: [])))))) [(.row 1 false false), (.row 1 false true)] (impl_PutNum_o ((x0.1 : Nat) : Int) x1) fun (r0 : Unit) (m1 : (Sl × (Sl × Unit))) =>
  impl_putTys_o_j1 (0 : Int) x0 ((x0.1 : Nat) : Int) m1.1 m1.2.1 := (evF_eq ..).trans (by kernel_rfl)
-- a loop's head
theorem impl_putTys_o_j1_eq (x0 : Int) (x1 : Sl) (x2 : Int) (x3 : Sl) (x4 : Sl) : impl_putTys_o_j1 x0 x1 x2 x3 x4 =
  oite (decide (x0 < x2))
    (oat sh_Ty x1.1 x1.2 x0 fun (t2 : T_Ty) =>
    ocall (.m (.one (.own 0))) [(.row 1 false true)] (impl_putTy_o t2 x4) fun (r3 : Unit) (m4 : (Sl × Unit)) =>
    impl_putTys_o_j1 (w64 (x0 + (1 : Int))) x1 x2 x3 m4.1)
    (some ((.own 0), [(.row 1 x4.1 false true x4.2)])) := (evI_eq ..).trans (by kernel_rfl)
noncomputable def impl_putTy_o_j2 (x0 : Bool) (x1 : Sl) (x2 : T_Ty) : Res := (fun (p : Env × Mem) => evI cx 72 1 2 p.1 p.2) ([(3, (.ptr 1 0)), (0, (.own 0)), (20, (.d (.bool x0)))], [(.row 1 x1.1 false true x1.2), (.box (LS.encs sh_Ty x2))])
noncomputable def impl_putTy_o_j1 (x0 : Sl) (x1 : T_Ty) : Res := (fun (p : Env × Mem) => evI cx 72 1 1 p.1 p.2) ([(3, (.ptr 1 0)), (0, (.own 0))], [(.row 1 x0.1 false true x0.2), (.box (LS.encs sh_Ty x1))])
noncomputable def impl_putTy_o_j3 (x0 : Sl) (x1 : T_Ty) : Res := (fun (p : Env × Mem) => evI cx 72 1 3 p.1 p.2) ([(0, (.own 0)), (3, (.ptr 1 0))], [(.row 1 x0.1 false true x0.2), (.box (LS.encs sh_Ty x1))])
noncomputable def impl_putTy_o_j4 (x0 : Int) (x1 : Sl) (x2 : Int) (x3 : Sl) : Res := (fun (p : Env × Mem) => evI cx 72 1 4 p.1 p.2) ([(36, (.d (.int .i64 x0))), (0, (.own 0)), (34, (.d (.sl false 3 x1.1 x1.2))), (35, (.d (.int .i64 x2)))], [(.row 1 x3.1 false true x3.2)])
theorem impl_putTy_o_eq (x0 : T_Ty) (x1 : Sl) : impl_putTy_o x0 x1 =
  oguard (decide (((x1.1 + 1) * 1) ≤ 140737488351232)) (
  olet (x1.2 ++ (((D.int .u8 (IntKind.wrap .u8 x0.1)) :: []) :: [])) fun (e0 : (List (List D))) =>
  oite (x0.1 == (6 : Int))
    (impl_putTy_o_j2 true ((x1.1 + 1), e0) x0)
    (impl_putTy_o_j2 (x0.1 == (7 : Int)) ((x1.1 + 1), e0) x0)) := (evF_eq ..).trans (by kernel_rfl)
theorem impl_putTy_o_j2_eq (x0 : Bool) (x1 : Sl) (x2 : T_Ty) : impl_putTy_o_j2 x0 x1 x2 =
  oite x0
    (ocall (.m (.one (.own (0 + (List.length ((Ent.row 1 x1.1 false false x1.2) :: [])))))) [(.row 1 false false), (.row 1 false true)] (impl_PutNum_o x2.2.1 x1) fun (r1 : Unit) (m2 : (Sl × (Sl × Unit))) =>
    impl_putTy_o_j1 m2.2.1 x2)
    (impl_putTy_o_j1 x1 x2) := (evI_eq ..).trans (by kernel_rfl)
theorem impl_putTy_o_j1_eq (x0 : Sl) (x1 : T_Ty) : impl_putTy_o_j1 x0 x1 =
  oite (x1.1 == (6 : Int))
    (ocall (.m (.one (.own (0 + (List.length ((Ent.row 1 x0.1 false false x0.2) :: [])))))) [(.row 1 false false), (.row 1 false true)] (impl_PutNum_o ((x1.2.2.1.1 : Nat) : Int) x0) fun (r3 : Unit) (m4 : (Sl × (Sl × Unit))) =>
    impl_putTy_o_j3 m4.2.1 x1)
    (impl_putTy_o_j3 x0 x1) := (evI_eq ..).trans (by kernel_rfl)
theorem impl_putTy_o_j3_eq (x0 : Sl) (x1 : T_Ty) : impl_putTy_o_j3 x0 x1 =
  impl_putTy_o_j4 (0 : Int) x1.2.2.1 ((x1.2.2.1.1 : Nat) : Int) x0 := (evI_eq ..).trans (by kernel_rfl)
-- a loop's head
theorem impl_putTy_o_j4_eq (x0 : Int) (x1 : Sl) (x2 : Int) (x3 : Sl) : impl_putTy_o_j4 x0 x1 x2 x3 =
  oite (decide (x0 < x2))
    (oat sh_Ty x1.1 x1.2 x0 fun (t5 : T_Ty) =>
    ocall (.m (.one (.own 0))) [(.row 1 false true)] (impl_putTy_o t5 x3) fun (r6 : Unit) (m7 : (Sl × Unit)) =>
    impl_putTy_o_j4 (w64 (x0 + (1 : Int))) x1 x2 m7.1)
    (some ((.own 0), [(.row 1 x3.1 false true x3.2)])) := (evI_eq ..).trans (by kernel_rfl)
noncomputable def impl_putIns_o_j1 (x0 : Sl) (x1 : T_Ins) (x2 : Bool) (x3 : Bool) (x4 : Bool) (x5 : Bool) : Res := (fun (p : Env × Mem) => evI cx 73 1 1 p.1 p.2) ([(3, (.ptr 1 0)), (5, (.ptr 2 0)), (0, (.own 0))], [(.row 1 x0.1 false true x0.2), (.box (LS.encs sh_Ins x1)), (.box [(.d (.bool x2)), (.d (.bool x3)), (.d (.bool x4)), (.d (.bool x5))])])
noncomputable def impl_putIns_o_j2 (x0 : Sl) (x1 : T_Ins) (x2 : Bool) (x3 : Bool) (x4 : Bool) (x5 : Bool) : Res := (fun (p : Env × Mem) => evI cx 73 1 2 p.1 p.2) ([(3, (.ptr 1 0)), (0, (.own 0)), (5, (.ptr 2 0))], [(.row 1 x0.1 false true x0.2), (.box (LS.encs sh_Ins x1)), (.box [(.d (.bool x2)), (.d (.bool x3)), (.d (.bool x4)), (.d (.bool x5))])])
theorem impl_putIns_o_eq (x0 : T_Ins) (x1 : Sl) : impl_putIns_o x0 x1 =
  oguard (decide (((x1.1 + 1) * 1) ≤ 140737488351232)) (
  olet (x1.2 ++ (((D.int .u8 (IntKind.wrap .u8 x0.1)) :: []) :: [])) fun (e0 : (List (List D))) =>
  ocall (.m (.agg [.bool, .bool, .bool, .bool])) [] (impl_partsOfIns x0.1) fun (r1 : (Bool × (Bool × (Bool × (Bool × Unit))))) (m2 : Unit) =>
  oite (x0.1 == (1 : Int))
    (ocall (.m (.one (.int .i64))) [] (impl_Fold x0.2.1) fun (r3 : Int) (m4 : Unit) =>
    ocall (.m (.one (.own (0 + (List.length ((Ent.row 1 (x1.1 + 1) false false e0) :: [])))))) [(.row 1 false false), (.row 1 false true)] (impl_PutNum_o r3 ((x1.1 + 1), e0)) fun (r5 : Unit) (m6 : (Sl × (Sl × Unit))) =>
    some ((.own 0), [(.row 1 m6.2.1.1 false true m6.2.1.2)]))
    (oite r1.2.2.2.1
      (ocall (.m (.one (.own (0 + (List.length ((Ent.row 1 (x1.1 + 1) false false e0) :: [])))))) [(.row 1 false false), (.row 1 false true)] (impl_PutText_o x0.2.2.2.1 ((x1.1 + 1), e0)) fun (r7 : Unit) (m8 : (Sl × (Sl × Unit))) =>
      some ((.own 0), [(.row 1 m8.2.1.1 false true m8.2.1.2)]))
      (oite r1.1
        (ocall (.m (.one (.own (0 + (List.length ((Ent.row 1 (x1.1 + 1) false false e0) :: [])))))) [(.row 1 false false), (.row 1 false true)] (impl_PutNum_o x0.2.1 ((x1.1 + 1), e0)) fun (r9 : Unit) (m10 : (Sl × (Sl × Unit))) =>
        impl_putIns_o_j1 m10.2.1 x0 r1.1 r1.2.1 r1.2.2.1 r1.2.2.2.1)
        (impl_putIns_o_j1 ((x1.1 + 1), e0) x0 r1.1 r1.2.1 r1.2.2.1 r1.2.2.2.1)))) := (evF_eq ..).trans (by kernel_rfl)
theorem impl_putIns_o_j1_eq (x0 : Sl) (x1 : T_Ins) (x2 : Bool) (x3 : Bool) (x4 : Bool) (x5 : Bool) : impl_putIns_o_j1 x0 x1 x2 x3 x4 x5 =
  oite x3
    (ocall (.m (.one (.own (0 + (List.length ((Ent.row 1 x0.1 false false x0.2) :: [])))))) [(.row 1 false false), (.row 1 false true)] (impl_PutNum_o x1.2.2.1 x0) fun (r11 : Unit) (m12 : (Sl × (Sl × Unit))) =>
    impl_putIns_o_j2 m12.2.1 x1 x2 x3 x4 x5)
    (impl_putIns_o_j2 x0 x1 x2 x3 x4 x5) := (evI_eq ..).trans (by kernel_rfl)
theorem impl_putIns_o_j2_eq (x0 : Sl) (x1 : T_Ins) (x2 : Bool) (x3 : Bool) (x4 : Bool) (x5 : Bool) : impl_putIns_o_j2 x0 x1 x2 x3 x4 x5 =
  oite x4
    (ocall (.m (.one (.own 0))) [(.row 1 false true)] (impl_putNums_o x1.2.2.2.2.1 x0) fun (r13 : Unit) (m14 : (Sl × Unit)) =>
    some ((.own 0), [(.row 1 m14.1.1 false true m14.1.2)]))
    (some ((.own 0), [(.row 1 x0.1 false true x0.2)])) := (evI_eq ..).trans (by kernel_rfl)
theorem laws_eqLayout_eq (x0 : Sl) (x1 : Sl) : laws_eqLayout x0 x1 =
  ocall (.m (.one .bool)) [] (laws_eqTySS x0 x1) fun (r0 : Bool) (m1 : Unit) =>
  oite (!r0)
    (some ((.d (.bool false)), []))
    (some ((.d (.bool true)), [])) := (evF_eq ..).trans (by kernel_rfl)
theorem laws_eqBlock_eq (x0 : T_Block) (x1 : T_Block) : laws_eqBlock x0 x1 =
  ocall (.m (.one .bool)) [] (laws_eqTyS x0.1 x1.1) fun (r0 : Bool) (m1 : Unit) =>
  oite (!r0)
    (some ((.d (.bool false)), []))
    (ocall (.m (.one .bool)) [] (laws_eqTy (x0.2.1, x0.2.2.1, x0.2.2.2.1, ()) (x1.2.1, x1.2.2.1, x1.2.2.2.1, ())) fun (r2 : Bool) (m3 : Unit) =>
    oite (!r2)
      (some ((.d (.bool false)), []))
      (ocall (.m (.one .bool)) [] (laws_eqTy (x0.2.2.2.2.1, x0.2.2.2.2.2.1, x0.2.2.2.2.2.2.1, ()) (x1.2.2.2.2.1, x1.2.2.2.2.2.1, x1.2.2.2.2.2.2.1, ())) fun (r4 : Bool) (m5 : Unit) =>
      oite (!r4)
        (some ((.d (.bool false)), []))
        (ocall (.m (.one .bool)) [] (laws_eqTyS x0.2.2.2.2.2.2.2.1 x1.2.2.2.2.2.2.2.1) fun (r6 : Bool) (m7 : Unit) =>
        oite (!r6)
          (some ((.d (.bool false)), []))
          (ocall (.m (.one .bool)) [] (laws_eqInsS x0.2.2.2.2.2.2.2.2.1 x1.2.2.2.2.2.2.2.2.1) fun (r8 : Bool) (m9 : Unit) =>
          oite (!r8)
            (some ((.d (.bool false)), []))
            (some ((.d (.bool true)), [])))))) := (evF_eq ..).trans (by kernel_rfl)
noncomputable def laws_szTySS_j1 (x0 : Int) (x1 : Int) (x2 : Sl) : Res := (fun (p : Env × Mem) => evI cx 89 0 1 p.1 p.2) ([(5, (.d (.int .i64 x0))), (1, (.d (.int .i64 x1))), (0, (.d (.sl false 1 x2.1 x2.2)))], [])
theorem laws_szTySS_eq (x0 : Sl) (x1 : Int) : laws_szTySS x0 x1 =
  oite (decide ((w64 (x1 - ((x0.1 : Nat) : Int))) < (0 : Int)))
    (some ((.d (.int .i64 (-1 : Int))), []))
    (laws_szTySS_j1 (0 : Int) (w64 (x1 - ((x0.1 : Nat) : Int))) x0) := (evF_eq ..).trans (by kernel_rfl)
-- a loop's head
theorem laws_szTySS_j1_eq (x0 : Int) (x1 : Int) (x2 : Sl) : laws_szTySS_j1 x0 x1 x2 =
  oite (decide (x0 < ((x2.1 : Nat) : Int)))
    (oat [(.sl 3)] x2.1 x2.2 x0 fun (t0 : (Sl × Unit)) =>
    ocall (.m (.one (.int .i64))) [] (laws_szTyS t0.1 x1) fun (r1 : Int) (m2 : Unit) =>
    oite (decide (r1 < (0 : Int)))
      (some ((.d (.int .i64 (-1 : Int))), []))
      (laws_szTySS_j1 (w64 (x0 + (1 : Int))) r1 x2))
    (some ((.d (.int .i64 x1)), [])) := (evI_eq ..).trans (by kernel_rfl)
noncomputable def laws_szTyS_j1 (x0 : Int) (x1 : Int) (x2 : Sl) : Res := (fun (p : Env × Mem) => evI cx 76 0 1 p.1 p.2) ([(5, (.d (.int .i64 x0))), (1, (.d (.int .i64 x1))), (0, (.d (.sl false 3 x2.1 x2.2)))], [])
theorem laws_szTyS_eq (x0 : Sl) (x1 : Int) : laws_szTyS x0 x1 =
  oite (decide ((w64 (x1 - ((x0.1 : Nat) : Int))) < (0 : Int)))
    (some ((.d (.int .i64 (-1 : Int))), []))
    (laws_szTyS_j1 (0 : Int) (w64 (x1 - ((x0.1 : Nat) : Int))) x0) := (evF_eq ..).trans (by kernel_rfl)
-- a loop's head
theorem laws_szTyS_j1_eq (x0 : Int) (x1 : Int) (x2 : Sl) : laws_szTyS_j1 x0 x1 x2 =
  oite (decide (x0 < ((x2.1 : Nat) : Int)))
    (oat sh_Ty x2.1 x2.2 x0 fun (t0 : T_Ty) =>
    ocall (.m (.one (.int .i64))) [] (laws_szTy t0 x1) fun (r1 : Int) (m2 : Unit) =>
    oite (decide (r1 < (0 : Int)))
      (some ((.d (.int .i64 (-1 : Int))), []))
      (laws_szTyS_j1 (w64 (x0 + (1 : Int))) r1 x2))
    (some ((.d (.int .i64 x1)), [])) := (evI_eq ..).trans (by kernel_rfl)
theorem laws_szTy_eq (x0 : T_Ty) (x1 : Int) : laws_szTy x0 x1 =
  ocall (.m (.one (.int .i64))) [] (laws_szTyS x0.2.2.1 x1) fun (r0 : Int) (m1 : Unit) =>
  oite (decide (r0 < (0 : Int)))
    (some ((.d (.int .i64 (-1 : Int))), []))
    (some ((.d (.int .i64 r0)), [])) := (evF_eq ..).trans (by kernel_rfl)
noncomputable def laws_szInsS_j1 (x0 : Int) (x1 : Int) (x2 : Sl) : Res := (fun (p : Env × Mem) => evI cx 90 0 1 p.1 p.2) ([(5, (.d (.int .i64 x0))), (1, (.d (.int .i64 x1))), (0, (.d (.sl false 5 x2.1 x2.2)))], [])
theorem laws_szInsS_eq (x0 : Sl) (x1 : Int) : laws_szInsS x0 x1 =
  oite (decide ((w64 (x1 - ((x0.1 : Nat) : Int))) < (0 : Int)))
    (some ((.d (.int .i64 (-1 : Int))), []))
    (laws_szInsS_j1 (0 : Int) (w64 (x1 - ((x0.1 : Nat) : Int))) x0) := (evF_eq ..).trans (by kernel_rfl)
-- a loop's head
theorem laws_szInsS_j1_eq (x0 : Int) (x1 : Int) (x2 : Sl) : laws_szInsS_j1 x0 x1 x2 =
  oite (decide (x0 < ((x2.1 : Nat) : Int)))
    (oat sh_Ins x2.1 x2.2 x0 fun (t0 : T_Ins) =>
    ocall (.m (.one (.int .i64))) [] (laws_szIns t0 x1) fun (r1 : Int) (m2 : Unit) =>
    oite (decide (r1 < (0 : Int)))
      (some ((.d (.int .i64 (-1 : Int))), []))
      (laws_szInsS_j1 (w64 (x0 + (1 : Int))) r1 x2))
    (some ((.d (.int .i64 x1)), [])) := (evI_eq ..).trans (by kernel_rfl)
noncomputable def laws_toTySS_j1 (x0 : Int) (x1 : Sl) (x2 : Sl) : Res := (fun (p : Env × Mem) => evI cx 98 0 1 p.1 p.2) ([(4, (.d (.int .i64 x0))), (0, (.d (.sl false 1 x1.1 x1.2))), (3, (.own 0))], [(.row 1 x2.1 false false x2.2)])
theorem laws_toTySS_eq (x0 : Sl) : laws_toTySS x0 =
  oguard (decide (((0 : Int) ≤ ((x0.1 : Nat) : Int)) ∧ ((((x0.1 : Nat) : Int) = ((x0.1 : Nat) : Int)) ∧ ((((x0.1 : Nat) : Int) * (24 : Int)) ≤ (140737488351232 : Int))))) (
  olet (List.replicate (Int.toNat ((x0.1 : Nat) : Int)) ((D.sl false 3 0 []) :: [])) fun (e0 : (List (List D))) =>
  laws_toTySS_j1 (0 : Int) x0 ((Int.toNat ((x0.1 : Nat) : Int)), e0)) := (evF_eq ..).trans (by kernel_rfl)
-- a loop's head
theorem laws_toTySS_j1_eq (x0 : Int) (x1 : Sl) (x2 : Sl) : laws_toTySS_j1 x0 x1 x2 =
  oite (decide (x0 < ((x1.1 : Nat) : Int)))
    (oat [(.sl 3)] x1.1 x1.2 x0 fun (t1 : (Sl × Unit)) =>
    ocall (.m (.one (.sl 3))) [] (laws_toTyS t1.1) fun (r2 : Sl) (m3 : Unit) =>
    oguard (decide (((0 : Int) ≤ x0) ∧ (x0 < ((x2.1 : Nat) : Int)))) (
    olet (List.set x2.2 (Int.toNat x0) (putD (List.getD x2.2 (Int.toNat x0) []) 0 [(D.sl false 3 r2.1 r2.2)])) fun (e4 : (List (List D))) =>
    laws_toTySS_j1 (w64 (x0 + (1 : Int))) x1 (x2.1, e4)))
    (some ((.d (.sl false 1 x2.1 x2.2)), [])) := (evI_eq ..).trans (by kernel_rfl)
noncomputable def laws_toTyS_j1 (x0 : Int) (x1 : Sl) (x2 : Sl) : Res := (fun (p : Env × Mem) => evI cx 81 0 1 p.1 p.2) ([(4, (.d (.int .i64 x0))), (0, (.d (.sl false 3 x1.1 x1.2))), (3, (.own 0))], [(.row 3 x2.1 false false x2.2)])
theorem laws_toTyS_eq (x0 : Sl) : laws_toTyS x0 =
  oguard (decide (((0 : Int) ≤ ((x0.1 : Nat) : Int)) ∧ ((((x0.1 : Nat) : Int) = ((x0.1 : Nat) : Int)) ∧ ((((x0.1 : Nat) : Int) * (40 : Int)) ≤ (140737488351232 : Int))))) (
  olet (List.replicate (Int.toNat ((x0.1 : Nat) : Int)) (vDs (LS.encs sh_Ty ((0 : Int), (0 : Int), (0, []), ())))) fun (e0 : (List (List D))) =>
  laws_toTyS_j1 (0 : Int) x0 ((Int.toNat ((x0.1 : Nat) : Int)), e0)) := (evF_eq ..).trans (by kernel_rfl)
-- a loop's head
theorem laws_toTyS_j1_eq (x0 : Int) (x1 : Sl) (x2 : Sl) : laws_toTyS_j1 x0 x1 x2 =
  oite (decide (x0 < ((x1.1 : Nat) : Int)))
    (oat sh_Ty x1.1 x1.2 x0 fun (t1 : T_Ty) =>
    ocall (.m (.agg sh_Ty)) [] (laws_toTy t1) fun (r2 : T_Ty) (m3 : Unit) =>
    oguard (decide (((0 : Int) ≤ x0) ∧ (x0 < ((x2.1 : Nat) : Int)))) (
    olet (List.set x2.2 (Int.toNat x0) (putD (List.getD x2.2 (Int.toNat x0) []) 0 (vDs (LS.encs sh_Ty r2)))) fun (e4 : (List (List D))) =>
    laws_toTyS_j1 (w64 (x0 + (1 : Int))) x1 (x2.1, e4)))
    (some ((.d (.sl false 3 x2.1 x2.2)), [])) := (evI_eq ..).trans (by kernel_rfl)
theorem laws_toTy_eq (x0 : T_Ty) : laws_toTy x0 =
  ocall (.m (.one (.sl 3))) [] (laws_toTyS x0.2.2.1) fun (r0 : Sl) (m1 : Unit) =>
  some ((.agg (LS.encs sh_Ty (x0.1, x0.2.1, r0, ()))), []) := (evF_eq ..).trans (by kernel_rfl)
noncomputable def laws_toInsS_j1 (x0 : Int) (x1 : Sl) (x2 : Sl) : Res := (fun (p : Env × Mem) => evI cx 99 0 1 p.1 p.2) ([(4, (.d (.int .i64 x0))), (0, (.d (.sl false 5 x1.1 x1.2))), (3, (.own 0))], [(.row 5 x2.1 false false x2.2)])
theorem laws_toInsS_eq (x0 : Sl) : laws_toInsS x0 =
  oguard (decide (((0 : Int) ≤ ((x0.1 : Nat) : Int)) ∧ ((((x0.1 : Nat) : Int) = ((x0.1 : Nat) : Int)) ∧ ((((x0.1 : Nat) : Int) * (72 : Int)) ≤ (140737488351232 : Int))))) (
  olet (List.replicate (Int.toNat ((x0.1 : Nat) : Int)) (vDs (LS.encs sh_Ins ((0 : Int), (0 : Int), (0 : Int), (0, []), (0, []), ())))) fun (e0 : (List (List D))) =>
  laws_toInsS_j1 (0 : Int) x0 ((Int.toNat ((x0.1 : Nat) : Int)), e0)) := (evF_eq ..).trans (by kernel_rfl)
-- a loop's head
theorem laws_toInsS_j1_eq (x0 : Int) (x1 : Sl) (x2 : Sl) : laws_toInsS_j1 x0 x1 x2 =
  oite (decide (x0 < ((x1.1 : Nat) : Int)))
    (oat sh_Ins x1.1 x1.2 x0 fun (t1 : T_Ins) =>
    ocall (.m (.agg sh_Ins)) [] (laws_toIns t1) fun (r2 : T_Ins) (m3 : Unit) =>
    oguard (decide (((0 : Int) ≤ x0) ∧ (x0 < ((x2.1 : Nat) : Int)))) (
    olet (List.set x2.2 (Int.toNat x0) (putD (List.getD x2.2 (Int.toNat x0) []) 0 (vDs (LS.encs sh_Ins r2)))) fun (e4 : (List (List D))) =>
    laws_toInsS_j1 (w64 (x0 + (1 : Int))) x1 (x2.1, e4)))
    (some ((.d (.sl false 5 x2.1 x2.2)), [])) := (evI_eq ..).trans (by kernel_rfl)
theorem spec_TyOk_eq (x0 : T_Ty) : spec_TyOk x0 =
  ocall (.m (.one (.int .i64))) [] (spec_l3ok x0 (1 : Int)) fun (r0 : Int) (m1 : Unit) =>
  some ((.d (.bool (decide (r0 > (0 : Int))))), []) := (evF_eq ..).trans (by kernel_rfl)
noncomputable def spec_l7closed_j2 (x0 : Int) (x1 : Bool) (x2 : T_Ty) : Res := (fun (p : Env × Mem) => evI cx 92 0 2 p.1 p.2) ([(1, (.d (.int .i64 x0))), (2, (.ptr 0 0)), (25, (.d (.bool x1)))], [(.box (LS.encs sh_Ty x2))])
noncomputable def spec_l7closed_j1 (x0 : Int) (x1 : T_Ty) : Res := (fun (p : Env × Mem) => evI cx 92 0 1 p.1 p.2) ([(1, (.d (.int .i64 x0))), (2, (.ptr 0 0))], [(.box (LS.encs sh_Ty x1))])
noncomputable def spec_l7closed_j3 (x0 : Int) (x1 : Int) (x2 : T_Ty) : Res := (fun (p : Env × Mem) => evI cx 92 0 3 p.1 p.2) ([(5, (.d (.int .i64 x0))), (1, (.d (.int .i64 x1))), (2, (.ptr 0 0))], [(.box (LS.encs sh_Ty x2))])
theorem spec_l7closed_eq (x0 : T_Ty) (x1 : Int) : spec_l7closed x0 x1 =
  oite (x0.1 == (7 : Int))
    (spec_l7closed_j2 x1 true x0)
    (oite (x0.1 == (6 : Int))
      (oite (decide (x0.2.1 ≥ x1))
        (spec_l7closed_j2 x1 true x0)
        (spec_l7closed_j2 x1 (decide (((x0.2.2.1.1 : Nat) : Int) > (0 : Int))) x0))
      (spec_l7closed_j2 x1 false x0)) := (evF_eq ..).trans (by kernel_rfl)
theorem spec_l7closed_j2_eq (x0 : Int) (x1 : Bool) (x2 : T_Ty) : spec_l7closed_j2 x0 x1 x2 =
  oite x1
    (some ((.d (.bool false)), []))
    (spec_l7closed_j1 x0 x2) := (evI_eq ..).trans (by kernel_rfl)
theorem spec_l7closed_j1_eq (x0 : Int) (x1 : T_Ty) : spec_l7closed_j1 x0 x1 =
  spec_l7closed_j3 (0 : Int) x0 x1 := (evI_eq ..).trans (by kernel_rfl)
-- a loop's head
theorem spec_l7closed_j3_eq (x0 : Int) (x1 : Int) (x2 : T_Ty) : spec_l7closed_j3 x0 x1 x2 =
  oite (decide (x0 < ((x2.2.2.1.1 : Nat) : Int)))
    (oat sh_Ty x2.2.2.1.1 x2.2.2.1.2 x0 fun (t0 : T_Ty) =>
    ocall (.m (.one .bool)) [] (spec_l7closed t0 x1) fun (r1 : Bool) (m2 : Unit) =>
    oite (!r1)
      (some ((.d (.bool false)), []))
      (spec_l7closed_j3 (w64 (x0 + (1 : Int))) x1 x2))
    (some ((.d (.bool true)), [])) := (evI_eq ..).trans (by kernel_rfl)
noncomputable def spec_l8parts_j1 (x0 : Int) (x1 : Bool) : Res := (fun (p : Env × Mem) => evI cx 93 0 1 p.1 p.2) ([(3, (.d (.int .i64 x0))), (4, (.d (.bool x1)))], [])
theorem spec_l8parts_eq (x0 : Int) : spec_l8parts x0 =
  oite (x0 == (1 : Int))
    (spec_l8parts_j1 x0 (x0 == (1 : Int)))
    (oite (x0 == (4 : Int))
      (spec_l8parts_j1 x0 (x0 == (4 : Int)))
      (oite (x0 == (6 : Int))
        (spec_l8parts_j1 x0 (x0 == (6 : Int)))
        (oite (x0 == (7 : Int))
          (spec_l8parts_j1 x0 (x0 == (7 : Int)))
          (oite (x0 == (23 : Int))
            (spec_l8parts_j1 x0 (x0 == (23 : Int)))
            (oite (x0 == (26 : Int))
              (spec_l8parts_j1 x0 (x0 == (26 : Int)))
              (oite (x0 == (27 : Int))
                (spec_l8parts_j1 x0 (x0 == (27 : Int)))
                (oite (x0 == (29 : Int))
                  (spec_l8parts_j1 x0 (x0 == (29 : Int)))
                  (spec_l8parts_j1 x0 (x0 == (31 : Int)))))))))) := (evF_eq ..).trans (by kernel_rfl)
theorem spec_l8parts_j1_eq (x0 : Int) (x1 : Bool) : spec_l8parts_j1 x0 x1 =
  oite x1
    (some ((.d (.int .i64 (1 : Int))), []))
    (oite (x0 == (21 : Int))
      (some ((.d (.int .i64 (2 : Int))), []))
      (oite (x0 == (22 : Int))
        (some ((.d (.int .i64 (3 : Int))), []))
        (oite (x0 == (2 : Int))
          (some ((.d (.int .i64 (4 : Int))), []))
          (some ((.d (.int .i64 (0 : Int))), []))))) := (evI_eq ..).trans (by kernel_rfl)
theorem spec_l5intOk_eq (x0 : Int) : spec_l5intOk x0 =
  oite (decide (x0 ≥ (-1073741824 : Int)))
    (some ((.d (.bool (decide (x0 ≤ (1073741823 : Int))))), []))
    (some ((.d (.bool false)), [])) := (evF_eq ..).trans (by kernel_rfl)
noncomputable def spec_l5lit_j1 (x0 : Int) (x1 : Sl) : Res := (fun (p : Env × Mem) => evI cx 95 0 1 p.1 p.2) ([(3, (.d (.int .i64 x0))), (0, (.d (.sl false 1 x1.1 x1.2)))], [])
noncomputable def spec_l5lit_j2 (x0 : Sl) (x1 : Int) (x2 : Bool) : Res := (fun (p : Env × Mem) => evI cx 95 0 2 p.1 p.2) ([(0, (.d (.sl false 1 x0.1 x0.2))), (3, (.d (.int .i64 x1))), (38, (.d (.bool x2)))], [])
theorem spec_l5lit_eq (x0 : Sl) : spec_l5lit x0 =
  oite (decide (((x0.1 : Nat) : Int) > (20 : Int)))
    (some ((.d (.bool false)), []))
    (spec_l5lit_j1 (0 : Int) x0) := (evF_eq ..).trans (by kernel_rfl)
-- a loop's head
theorem spec_l5lit_j1_eq (x0 : Int) (x1 : Sl) : spec_l5lit_j1 x0 x1 =
  oite (decide (x0 < ((x1.1 : Nat) : Int)))
    (oat [(.int .u8)] x1.1 x1.2 x0 fun (t0 : (Int × Unit)) =>
    oite (decide (t0.1 < (32 : Int)))
      (spec_l5lit_j2 x1 x0 true)
      (oat [(.int .u8)] x1.1 x1.2 x0 fun (t1 : (Int × Unit)) =>
      oite (decide (t1.1 > (126 : Int)))
        (spec_l5lit_j2 x1 x0 true)
        (oat [(.int .u8)] x1.1 x1.2 x0 fun (t2 : (Int × Unit)) =>
        oite (t2.1 == (34 : Int))
          (spec_l5lit_j2 x1 x0 true)
          (oat [(.int .u8)] x1.1 x1.2 x0 fun (t3 : (Int × Unit)) =>
          spec_l5lit_j2 x1 x0 (t3.1 == (92 : Int))))))
    (some ((.d (.bool true)), [])) := (evI_eq ..).trans (by kernel_rfl)
theorem spec_l5lit_j2_eq (x0 : Sl) (x1 : Int) (x2 : Bool) : spec_l5lit_j2 x0 x1 x2 =
  oite x2
    (some ((.d (.bool false)), []))
    (spec_l5lit_j1 (w64 (x1 + (1 : Int))) x0) := (evI_eq ..).trans (by kernel_rfl)
noncomputable def spec_Fold_j2 (x0 : Int) (x1 : Bool) : Res := (fun (p : Env × Mem) => evI cx 96 0 2 p.1 p.2) ([(0, (.d (.int .i64 x0))), (8, (.d (.bool x1)))], [])
noncomputable def spec_Fold_j1 (x0 : Int) : Res := (fun (p : Env × Mem) => evI cx 96 0 1 p.1 p.2) ([(0, (.d (.int .i64 x0)))], [])
noncomputable def spec_Fold_j3 (x0 : Int) (x1 : Bool) : Res := (fun (p : Env × Mem) => evI cx 96 0 3 p.1 p.2) ([(0, (.d (.int .i64 x0))), (16, (.d (.bool x1)))], [])
theorem spec_Fold_eq (x0 : Int) : spec_Fold x0 =
  oite (decide (x0 ≥ (0 : Int)))
    (spec_Fold_j2 x0 (decide (x0 ≤ (1073741823 : Int))))
    (spec_Fold_j2 x0 false) := (evF_eq ..).trans (by kernel_rfl)
theorem spec_Fold_j2_eq (x0 : Int) (x1 : Bool) : spec_Fold_j2 x0 x1 =
  oite x1
    (some ((.d (.int .i64 (w64 ((2 : Int) * x0)))), []))
    (spec_Fold_j1 x0) := (evI_eq ..).trans (by kernel_rfl)
theorem spec_Fold_j1_eq (x0 : Int) : spec_Fold_j1 x0 =
  oite (decide (x0 < (0 : Int)))
    (spec_Fold_j3 x0 (decide (x0 ≥ (-1073741824 : Int))))
    (spec_Fold_j3 x0 false) := (evI_eq ..).trans (by kernel_rfl)
theorem spec_Fold_j3_eq (x0 : Int) (x1 : Bool) : spec_Fold_j3 x0 x1 =
  oite x1
    (some ((.d (.int .i64 (w64 ((w64 ((-2 : Int) * x0)) - (1 : Int))))), []))
    (some ((.d (.int .i64 (-1 : Int))), [])) := (evI_eq ..).trans (by kernel_rfl)
theorem spec_PutText_o_eq (x0 : Sl) (x1 : Sl) : spec_PutText_o x0 x1 =
  oite (decide (((x0.1 : Nat) : Int) > (40 : Int)))
    (oguard (decide ((x1.1 * 1) ≤ 140737488351232)) (
    some ((.own 1), [(.row 1 x1.1 false false x1.2), (.row 1 x1.1 false false x1.2)])))
    (ocall (.m (.one (.own (0 + (List.length ((Ent.row 1 x1.1 false false x1.2) :: [])))))) [(.row 1 false false), (.row 1 false true)] (spec_PutNum_o ((x0.1 : Nat) : Int) x1) fun (r0 : Unit) (m1 : (Sl × (Sl × Unit))) =>
    oguard (decide (((m1.2.1.1 + x0.1) * 1) ≤ 140737488351232)) (
    olet (m1.2.1.2 ++ x0.2) fun (e2 : (List (List D))) =>
    some ((.own 1), [(.row 1 m1.1.1 false false m1.1.2), (.row 1 (m1.2.1.1 + x0.1) false true e2)]))) := (evF_eq ..).trans (by kernel_rfl)
theorem slices_ContainsFunc_impl_Ty_impl_Ty_Fimpl_layoutsOk_1c_eq (x0 : Sl) (x1 : Sl) : slices_ContainsFunc_impl_Ty_impl_Ty_Fimpl_layoutsOk_1c x0 x1 =
  ocall (.m (.one (.int .i64))) [(.box [(.sl 1)])] (slices_IndexFunc_impl_Ty_impl_Ty_Fimpl_layoutsOk_1c x0 x1) fun (r0 : Int) (m1 : ((Sl × Unit) × Unit)) =>
  some ((.d (.bool (decide (r0 ≥ (0 : Int))))), [(.box [(.d (.sl false 1 m1.1.1.1 m1.1.1.2))])]) := (evF_eq ..).trans (by kernel_rfl)
noncomputable def slices_IndexFunc_impl_Block_impl_Block_Fimpl_formOk_1c_j1 (x0 : Int) (x1 : Sl) (x2 : Int) (x3 : T_Program) : Res := (fun (p : Env × Mem) => evI cx 103 1 1 p.1 p.2) ([(8, (.d (.int .i64 x0))), (0, (.d (.sl false 9 x1.1 x1.2))), (1, (.fn 67 [(.ptr 0 0)])), (7, (.d (.int .i64 x2)))], [(.box (LS.encs sh_Program x3))])
theorem slices_IndexFunc_impl_Block_impl_Block_Fimpl_formOk_1c_eq (x0 : Sl) (x1 : T_Program) : slices_IndexFunc_impl_Block_impl_Block_Fimpl_formOk_1c x0 x1 =
  slices_IndexFunc_impl_Block_impl_Block_Fimpl_formOk_1c_j1 (0 : Int) x0 ((x0.1 : Nat) : Int) x1 := (evF_eq ..).trans (by kernel_rfl)
-- a loop's head
theorem slices_IndexFunc_impl_Block_impl_Block_Fimpl_formOk_1c_j1_eq (x0 : Int) (x1 : Sl) (x2 : Int) (x3 : T_Program) : slices_IndexFunc_impl_Block_impl_Block_Fimpl_formOk_1c_j1 x0 x1 x2 x3 =
  oite (decide (x0 < x2))
    (oat sh_Block x1.1 x1.2 x0 fun (t0 : T_Block) =>
    ocall (.m (.one .bool)) [(.box sh_Program)] (impl_formOk_1 t0 x3) fun (r1 : Bool) (m2 : (T_Program × Unit)) =>
    oite r1
      (some ((.d (.int .i64 x0)), [(.box (LS.encs sh_Program m2.1))]))
      (slices_IndexFunc_impl_Block_impl_Block_Fimpl_formOk_1c_j1 (w64 (x0 + (1 : Int))) x1 x2 m2.1))
    (some ((.d (.int .i64 (-1 : Int))), [(.box (LS.encs sh_Program x3))])) := (evI_eq ..).trans (by kernel_rfl)
theorem slices_Clone_byte_byte_o_eq (x0 : Sl) : slices_Clone_byte_byte_o x0 =
  onil x0.1
    (some ((.own 1), [(.row 1 x0.1 false false x0.2), (.row 1 0 false false [])]))
    (oguard (decide ((x0.1 * 1) ≤ 140737488351232)) (
    some ((.own 1), [(.row 1 x0.1 false false x0.2), (.row 1 x0.1 false false x0.2)]))) := (evF_eq ..).trans (by kernel_rfl)
noncomputable def impl_partsOfIns_j2 (x0 : Int) (x1 : Bool) (x2 : Bool) (x3 : Bool) (x4 : Bool) (x5 : Bool) : Res := (fun (p : Env × Mem) => evI cx 110 0 2 p.1 p.2) ([(2, (.ptr 0 0)), (3, (.d (.int .i64 x0))), (4, (.d (.bool x1)))], [(.box [(.d (.bool x2)), (.d (.bool x3)), (.d (.bool x4)), (.d (.bool x5))])])
noncomputable def impl_partsOfIns_j1 (x0 : Bool) (x1 : Bool) (x2 : Bool) (x3 : Bool) : Res := (fun (p : Env × Mem) => evI cx 110 0 1 p.1 p.2) ([(2, (.ptr 0 0))], [(.box [(.d (.bool x0)), (.d (.bool x1)), (.d (.bool x2)), (.d (.bool x3))])])
theorem impl_partsOfIns_eq (x0 : Int) : impl_partsOfIns x0 =
  oite (x0 == (1 : Int))
    (impl_partsOfIns_j2 x0 (x0 == (1 : Int)) false false false false)
    (oite (x0 == (4 : Int))
      (impl_partsOfIns_j2 x0 (x0 == (4 : Int)) false false false false)
      (oite (x0 == (6 : Int))
        (impl_partsOfIns_j2 x0 (x0 == (6 : Int)) false false false false)
        (oite (x0 == (7 : Int))
          (impl_partsOfIns_j2 x0 (x0 == (7 : Int)) false false false false)
          (oite (x0 == (23 : Int))
            (impl_partsOfIns_j2 x0 (x0 == (23 : Int)) false false false false)
            (oite (x0 == (26 : Int))
              (impl_partsOfIns_j2 x0 (x0 == (26 : Int)) false false false false)
              (oite (x0 == (27 : Int))
                (impl_partsOfIns_j2 x0 (x0 == (27 : Int)) false false false false)
                (oite (x0 == (29 : Int))
                  (impl_partsOfIns_j2 x0 (x0 == (29 : Int)) false false false false)
                  (impl_partsOfIns_j2 x0 (x0 == (31 : Int)) false false false false)))))))) := (evF_eq ..).trans (by kernel_rfl)
theorem impl_partsOfIns_j2_eq (x0 : Int) (x1 : Bool) (x2 : Bool) (x3 : Bool) (x4 : Bool) (x5 : Bool) : impl_partsOfIns_j2 x0 x1 x2 x3 x4 x5 =
  oite x1
    (some ((.agg [(.d (.bool true)), (.d (.bool false)), (.d (.bool false)), (.d (.bool false))]), []))
    (oite (x0 == (21 : Int))
      (some ((.agg [(.d (.bool true)), (.d (.bool true)), (.d (.bool false)), (.d (.bool false))]), []))
      (oite (x0 == (22 : Int))
        (some ((.agg [(.d (.bool true)), (.d (.bool false)), (.d (.bool true)), (.d (.bool false))]), []))
        (oite (x0 == (2 : Int))
          (some ((.agg [(.d (.bool false)), (.d (.bool false)), (.d (.bool false)), (.d (.bool true))]), []))
          (impl_partsOfIns_j1 x2 x3 x4 x5)))) := (evI_eq ..).trans (by kernel_rfl)
theorem impl_partsOfIns_j1_eq (x0 : Bool) (x1 : Bool) (x2 : Bool) (x3 : Bool) : impl_partsOfIns_j1 x0 x1 x2 x3 =
  some ((.agg [(.d (.bool false)), (.d (.bool false)), (.d (.bool false)), (.d (.bool false))]), []) := (evI_eq ..).trans (by kernel_rfl)
theorem impl_Fold_eq (x0 : Int) : impl_Fold x0 =
  ocall (.m (.one .bool)) [] (impl_within x0 (0 : Int) (1073741823 : Int)) fun (r0 : Bool) (m1 : Unit) =>
  oite r0
    (some ((.d (.int .i64 (w64 ((2 : Int) * x0)))), []))
    (ocall (.m (.one .bool)) [] (impl_within x0 (-1073741824 : Int) (-1 : Int)) fun (r2 : Bool) (m3 : Unit) =>
    oite r2
      (some ((.d (.int .i64 (w64 ((w64 ((-2 : Int) * x0)) - (1 : Int))))), []))
      (some ((.d (.int .i64 (-1 : Int))), []))) := (evF_eq ..).trans (by kernel_rfl)
theorem impl_PutText_o_eq (x0 : Sl) (x1 : Sl) : impl_PutText_o x0 x1 =
  oite (decide (((x0.1 : Nat) : Int) > (40 : Int)))
    (ocall (.m (.one (.own (0 + (List.length ((Ent.row 1 x1.1 false false x1.2) :: [])))))) [(.row 1 false false), (.row 1 false true)] (slices_Clone_byte_byte_o x1) fun (r0 : Unit) (m1 : (Sl × (Sl × Unit))) =>
    some ((.own 1), [(.row 1 m1.1.1 false false m1.1.2), (.row 1 m1.2.1.1 false true m1.2.1.2)]))
    (ocall (.m (.one (.own (0 + (List.length ((Ent.row 1 x1.1 false false x1.2) :: [])))))) [(.row 1 false false), (.row 1 false true)] (impl_PutNum_o ((x0.1 : Nat) : Int) x1) fun (r2 : Unit) (m3 : (Sl × (Sl × Unit))) =>
    oguard (decide (((m3.2.1.1 + x0.1) * 1) ≤ 140737488351232)) (
    olet (m3.2.1.2 ++ x0.2) fun (e4 : (List (List D))) =>
    some ((.own 1), [(.row 1 m3.1.1 false false m3.1.2), (.row 1 (m3.2.1.1 + x0.1) false true e4)]))) := (evF_eq ..).trans (by kernel_rfl)
noncomputable def laws_eqTySS_j1 (x0 : Int) (x1 : Sl) (x2 : Sl) : Res := (fun (p : Env × Mem) => evI cx 113 0 1 p.1 p.2) ([(5, (.d (.int .i64 x0))), (1, (.d (.sl false 1 x1.1 x1.2))), (0, (.d (.sl false 1 x2.1 x2.2)))], [])
theorem laws_eqTySS_eq (x0 : Sl) (x1 : Sl) : laws_eqTySS x0 x1 =
  oite (!(((x0.1 : Nat) : Int) == ((x1.1 : Nat) : Int)))
    (some ((.d (.bool false)), []))
    (laws_eqTySS_j1 (0 : Int) x1 x0) := (evF_eq ..).trans (by kernel_rfl)
-- a loop's head
theorem laws_eqTySS_j1_eq (x0 : Int) (x1 : Sl) (x2 : Sl) : laws_eqTySS_j1 x0 x1 x2 =
  oite (decide (x0 < ((x2.1 : Nat) : Int)))
    (oat [(.sl 3)] x2.1 x2.2 x0 fun (t0 : (Sl × Unit)) =>
    oat [(.sl 3)] x1.1 x1.2 x0 fun (t1 : (Sl × Unit)) =>
    ocall (.m (.one .bool)) [] (laws_eqTyS t0.1 t1.1) fun (r2 : Bool) (m3 : Unit) =>
    oite (!r2)
      (some ((.d (.bool false)), []))
      (laws_eqTySS_j1 (w64 (x0 + (1 : Int))) x1 x2))
    (some ((.d (.bool true)), [])) := (evI_eq ..).trans (by kernel_rfl)
noncomputable def laws_eqTyS_j1 (x0 : Int) (x1 : Sl) (x2 : Sl) : Res := (fun (p : Env × Mem) => evI cx 86 0 1 p.1 p.2) ([(5, (.d (.int .i64 x0))), (1, (.d (.sl false 3 x1.1 x1.2))), (0, (.d (.sl false 3 x2.1 x2.2)))], [])
theorem laws_eqTyS_eq (x0 : Sl) (x1 : Sl) : laws_eqTyS x0 x1 =
  oite (!(((x0.1 : Nat) : Int) == ((x1.1 : Nat) : Int)))
    (some ((.d (.bool false)), []))
    (laws_eqTyS_j1 (0 : Int) x1 x0) := (evF_eq ..).trans (by kernel_rfl)
-- a loop's head
theorem laws_eqTyS_j1_eq (x0 : Int) (x1 : Sl) (x2 : Sl) : laws_eqTyS_j1 x0 x1 x2 =
  oite (decide (x0 < ((x2.1 : Nat) : Int)))
    (oat sh_Ty x2.1 x2.2 x0 fun (t0 : T_Ty) =>
    oat sh_Ty x1.1 x1.2 x0 fun (t1 : T_Ty) =>
    ocall (.m (.one .bool)) [] (laws_eqTy t0 t1) fun (r2 : Bool) (m3 : Unit) =>
    oite (!r2)
      (some ((.d (.bool false)), []))
      (laws_eqTyS_j1 (w64 (x0 + (1 : Int))) x1 x2))
    (some ((.d (.bool true)), [])) := (evI_eq ..).trans (by kernel_rfl)
theorem laws_eqTy_eq (x0 : T_Ty) (x1 : T_Ty) : laws_eqTy x0 x1 =
  oite (!(x0.1 == x1.1))
    (some ((.d (.bool false)), []))
    (oite (!(x0.2.1 == x1.2.1))
      (some ((.d (.bool false)), []))
      (ocall (.m (.one .bool)) [] (laws_eqTyS x0.2.2.1 x1.2.2.1) fun (r0 : Bool) (m1 : Unit) =>
      oite (!r0)
        (some ((.d (.bool false)), []))
        (some ((.d (.bool true)), [])))) := (evF_eq ..).trans (by kernel_rfl)
noncomputable def laws_eqInsS_j1 (x0 : Int) (x1 : Sl) (x2 : Sl) : Res := (fun (p : Env × Mem) => evI cx 114 0 1 p.1 p.2) ([(5, (.d (.int .i64 x0))), (1, (.d (.sl false 5 x1.1 x1.2))), (0, (.d (.sl false 5 x2.1 x2.2)))], [])
theorem laws_eqInsS_eq (x0 : Sl) (x1 : Sl) : laws_eqInsS x0 x1 =
  oite (!(((x0.1 : Nat) : Int) == ((x1.1 : Nat) : Int)))
    (some ((.d (.bool false)), []))
    (laws_eqInsS_j1 (0 : Int) x1 x0) := (evF_eq ..).trans (by kernel_rfl)
-- a loop's head
theorem laws_eqInsS_j1_eq (x0 : Int) (x1 : Sl) (x2 : Sl) : laws_eqInsS_j1 x0 x1 x2 =
  oite (decide (x0 < ((x2.1 : Nat) : Int)))
    (oat sh_Ins x2.1 x2.2 x0 fun (t0 : T_Ins) =>
    oat sh_Ins x1.1 x1.2 x0 fun (t1 : T_Ins) =>
    ocall (.m (.one .bool)) [] (laws_eqIns t0 t1) fun (r2 : Bool) (m3 : Unit) =>
    oite (!r2)
      (some ((.d (.bool false)), []))
      (laws_eqInsS_j1 (w64 (x0 + (1 : Int))) x1 x2))
    (some ((.d (.bool true)), [])) := (evI_eq ..).trans (by kernel_rfl)
theorem laws_szIns_eq (x0 : T_Ins) (x1 : Int) : laws_szIns x0 x1 =
  ocall (.m (.one (.int .i64))) [] (laws_szByteS x0.2.2.2.1 x1) fun (r0 : Int) (m1 : Unit) =>
  oite (decide (r0 < (0 : Int)))
    (some ((.d (.int .i64 (-1 : Int))), []))
    (ocall (.m (.one (.int .i64))) [] (laws_szIntS x0.2.2.2.2.1 r0) fun (r2 : Int) (m3 : Unit) =>
    oite (decide (r2 < (0 : Int)))
      (some ((.d (.int .i64 (-1 : Int))), []))
      (some ((.d (.int .i64 r2)), []))) := (evF_eq ..).trans (by kernel_rfl)
theorem laws_toIns_eq (x0 : T_Ins) : laws_toIns x0 =
  ocall (.m (.one (.sl 1))) [] (laws_toByteS x0.2.2.2.1) fun (r0 : Sl) (m1 : Unit) =>
  ocall (.m (.one (.sl 1))) [] (laws_toIntS x0.2.2.2.2.1) fun (r2 : Sl) (m3 : Unit) =>
  some ((.agg (LS.encs sh_Ins (x0.1, x0.2.1, x0.2.2.1, r0, r2, ()))), []) := (evF_eq ..).trans (by kernel_rfl)
noncomputable def spec_l3ok_j2 (x0 : Int) (x1 : Int) (x2 : Int) (x3 : Int) (x4 : Bool) (x5 : T_Ty) : Res := (fun (p : Env × Mem) => evI cx 121 0 2 p.1 p.2) ([(1, (.d (.int .i64 x0))), (2, (.ptr 0 0)), (6, (.d (.int .i64 x1))), (5, (.d (.int .i64 x2))), (13, (.d (.int .i64 x3))), (14, (.d (.bool x4)))], [(.box (LS.encs sh_Ty x5))])
noncomputable def spec_l3ok_j1 (x0 : Int) (x1 : Int) (x2 : Int) (x3 : T_Ty) : Res := (fun (p : Env × Mem) => evI cx 121 0 1 p.1 p.2) ([(1, (.d (.int .i64 x0))), (2, (.ptr 0 0)), (6, (.d (.int .i64 x1))), (5, (.d (.int .i64 x2)))], [(.box (LS.encs sh_Ty x3))])
noncomputable def spec_l3ok_j3 (x0 : Int) (x1 : Int) (x2 : Int) (x3 : Int) (x4 : Bool) (x5 : T_Ty) : Res := (fun (p : Env × Mem) => evI cx 121 0 3 p.1 p.2) ([(1, (.d (.int .i64 x0))), (2, (.ptr 0 0)), (6, (.d (.int .i64 x1))), (5, (.d (.int .i64 x2))), (13, (.d (.int .i64 x3))), (18, (.d (.bool x4)))], [(.box (LS.encs sh_Ty x5))])
noncomputable def spec_l3ok_j5 (x0 : Int) (x1 : Bool) (x2 : T_Ty) : Res := (fun (p : Env × Mem) => evI cx 121 0 5 p.1 p.2) ([(1, (.d (.int .i64 x0))), (2, (.ptr 0 0)), (47, (.d (.bool x1)))], [(.box (LS.encs sh_Ty x2))])
noncomputable def spec_l3ok_j4 (x0 : Int) (x1 : T_Ty) : Res := (fun (p : Env × Mem) => evI cx 121 0 4 p.1 p.2) ([(1, (.d (.int .i64 x0))), (2, (.ptr 0 0))], [(.box (LS.encs sh_Ty x1))])
noncomputable def spec_l3ok_j6 (x0 : Int) (x1 : Int) (x2 : Int) (x3 : T_Ty) : Res := (fun (p : Env × Mem) => evI cx 121 0 6 p.1 p.2) ([(8, (.d (.int .i64 x0))), (7, (.d (.int .i64 x1))), (1, (.d (.int .i64 x2))), (2, (.ptr 0 0))], [(.box (LS.encs sh_Ty x3))])
theorem spec_l3ok_eq (x0 : T_Ty) (x1 : Int) : spec_l3ok x0 x1 =
  oite (decide (x1 > (10 : Int)))
    (some ((.d (.int .i64 (-1 : Int))), []))
    (oite (x0.1 == (0 : Int))
      (spec_l3ok_j2 x1 (0 : Int) (0 : Int) x0.1 (x0.1 == (0 : Int)) x0)
      (oite (x0.1 == (1 : Int))
        (spec_l3ok_j2 x1 (0 : Int) (0 : Int) x0.1 (x0.1 == (1 : Int)) x0)
        (spec_l3ok_j2 x1 (0 : Int) (0 : Int) x0.1 (x0.1 == (2 : Int)) x0))) := (evF_eq ..).trans (by kernel_rfl)
theorem spec_l3ok_j2_eq (x0 : Int) (x1 : Int) (x2 : Int) (x3 : Int) (x4 : Bool) (x5 : T_Ty) : spec_l3ok_j2 x0 x1 x2 x3 x4 x5 =
  oite x4
    (spec_l3ok_j1 x0 x1 x2 x5)
    (oite (x3 == (3 : Int))
      (spec_l3ok_j3 x0 x1 x2 x3 (x3 == (3 : Int)) x5)
      (spec_l3ok_j3 x0 x1 x2 x3 (x3 == (4 : Int)) x5)) := (evI_eq ..).trans (by kernel_rfl)
theorem spec_l3ok_j1_eq (x0 : Int) (x1 : Int) (x2 : Int) (x3 : T_Ty) : spec_l3ok_j1 x0 x1 x2 x3 =
  oite (!(((x3.2.2.1.1 : Nat) : Int) == x2))
    (spec_l3ok_j5 x0 true x3)
    (oite (decide (x3.2.1 < (0 : Int)))
      (spec_l3ok_j5 x0 true x3)
      (spec_l3ok_j5 x0 (decide (x3.2.1 > x1)) x3)) := (evI_eq ..).trans (by kernel_rfl)
theorem spec_l3ok_j3_eq (x0 : Int) (x1 : Int) (x2 : Int) (x3 : Int) (x4 : Bool) (x5 : T_Ty) : spec_l3ok_j3 x0 x1 x2 x3 x4 x5 =
  oite x4
    (spec_l3ok_j1 x0 x1 (2 : Int) x5)
    (oite (x3 == (5 : Int))
      (spec_l3ok_j1 x0 x1 (1 : Int) x5)
      (oite (x3 == (6 : Int))
        (oite (decide (((x5.2.2.1.1 : Nat) : Int) > (3 : Int)))
          (some ((.d (.int .i64 (-1 : Int))), []))
          (spec_l3ok_j1 x0 (19 : Int) ((x5.2.2.1.1 : Nat) : Int) x5))
        (oite (x3 == (7 : Int))
          (spec_l3ok_j1 x0 (99999 : Int) x2 x5)
          (some ((.d (.int .i64 (-1 : Int))), []))))) := (evI_eq ..).trans (by kernel_rfl)
theorem spec_l3ok_j5_eq (x0 : Int) (x1 : Bool) (x2 : T_Ty) : spec_l3ok_j5 x0 x1 x2 =
  oite x1
    (some ((.d (.int .i64 (-1 : Int))), []))
    (spec_l3ok_j4 x0 x2) := (evI_eq ..).trans (by kernel_rfl)
theorem spec_l3ok_j4_eq (x0 : Int) (x1 : T_Ty) : spec_l3ok_j4 x0 x1 =
  spec_l3ok_j6 (0 : Int) (1 : Int) x0 x1 := (evI_eq ..).trans (by kernel_rfl)
-- a loop's head
theorem spec_l3ok_j6_eq (x0 : Int) (x1 : Int) (x2 : Int) (x3 : T_Ty) : spec_l3ok_j6 x0 x1 x2 x3 =
  oite (decide (x0 < ((x3.2.2.1.1 : Nat) : Int)))
    (oat sh_Ty x3.2.2.1.1 x3.2.2.1.2 x0 fun (t0 : T_Ty) =>
    ocall (.m (.one (.int .i64))) [] (spec_l3ok t0 (w64 (x2 + (1 : Int)))) fun (r1 : Int) (m2 : Unit) =>
    oite (decide (r1 < (0 : Int)))
      (some ((.d (.int .i64 (-1 : Int))), []))
      (oite (decide ((w64 (x1 + r1)) > (60 : Int)))
        (some ((.d (.int .i64 (-1 : Int))), []))
        (spec_l3ok_j6 (w64 (x0 + (1 : Int))) (w64 (x1 + r1)) x2 x3)))
    (some ((.d (.int .i64 x1)), [])) := (evI_eq ..).trans (by kernel_rfl)
noncomputable def slices_IndexFunc_impl_Ty_impl_Ty_Fimpl_layoutsOk_1c_j1 (x0 : Int) (x1 : Sl) (x2 : Int) (x3 : Sl) : Res := (fun (p : Env × Mem) => evI cx 123 1 1 p.1 p.2) ([(8, (.d (.int .i64 x0))), (0, (.d (.sl false 3 x1.1 x1.2))), (1, (.fn 101 [(.ptr 0 0)])), (7, (.d (.int .i64 x2)))], [(.box [(.d (.sl false 1 x3.1 x3.2))])])
theorem slices_IndexFunc_impl_Ty_impl_Ty_Fimpl_layoutsOk_1c_eq (x0 : Sl) (x1 : Sl) : slices_IndexFunc_impl_Ty_impl_Ty_Fimpl_layoutsOk_1c x0 x1 =
  slices_IndexFunc_impl_Ty_impl_Ty_Fimpl_layoutsOk_1c_j1 (0 : Int) x0 ((x0.1 : Nat) : Int) x1 := (evF_eq ..).trans (by kernel_rfl)
-- a loop's head
theorem slices_IndexFunc_impl_Ty_impl_Ty_Fimpl_layoutsOk_1c_j1_eq (x0 : Int) (x1 : Sl) (x2 : Int) (x3 : Sl) : slices_IndexFunc_impl_Ty_impl_Ty_Fimpl_layoutsOk_1c_j1 x0 x1 x2 x3 =
  oite (decide (x0 < x2))
    (oat sh_Ty x1.1 x1.2 x0 fun (t0 : T_Ty) =>
    ocall (.m (.one .bool)) [(.box [(.sl 1)])] (impl_layoutsOk_1 t0 x3) fun (r1 : Bool) (m2 : ((Sl × Unit) × Unit)) =>
    oite r1
      (some ((.d (.int .i64 x0)), [(.box [(.d (.sl false 1 m2.1.1.1 m2.1.1.2))])]))
      (slices_IndexFunc_impl_Ty_impl_Ty_Fimpl_layoutsOk_1c_j1 (w64 (x0 + (1 : Int))) x1 x2 m2.1.1))
    (some ((.d (.int .i64 (-1 : Int))), [(.box [(.d (.sl false 1 x3.1 x3.2))])])) := (evI_eq ..).trans (by kernel_rfl)
theorem impl_formOk_1_eq (x0 : T_Block) (x1 : T_Program) : impl_formOk_1 x0 x1 =
  ocall (.m (.one .bool)) [] (impl_blockOk x0 x1.1) fun (r0 : Bool) (m1 : Unit) =>
  some ((.d (.bool (!r0))), [(.box (LS.encs sh_Program x1))]) := (evF_eq ..).trans (by kernel_rfl)
theorem laws_eqIns_eq (x0 : T_Ins) (x1 : T_Ins) : laws_eqIns x0 x1 =
  oite (!(x0.1 == x1.1))
    (some ((.d (.bool false)), []))
    (oite (!(x0.2.1 == x1.2.1))
      (some ((.d (.bool false)), []))
      (oite (!(x0.2.2.1 == x1.2.2.1))
        (some ((.d (.bool false)), []))
        (ocall (.m (.one .bool)) [] (laws_eqByteS x0.2.2.2.1 x1.2.2.2.1) fun (r0 : Bool) (m1 : Unit) =>
        oite (!r0)
          (some ((.d (.bool false)), []))
          (ocall (.m (.one .bool)) [] (laws_eqIntS x0.2.2.2.2.1 x1.2.2.2.2.1) fun (r2 : Bool) (m3 : Unit) =>
          oite (!r2)
            (some ((.d (.bool false)), []))
            (some ((.d (.bool true)), [])))))) := (evF_eq ..).trans (by kernel_rfl)
theorem laws_szByteS_eq (x0 : Sl) (x1 : Int) : laws_szByteS x0 x1 =
  oite (decide ((w64 (x1 - ((x0.1 : Nat) : Int))) < (0 : Int)))
    (some ((.d (.int .i64 (-1 : Int))), []))
    (some ((.d (.int .i64 (w64 (x1 - ((x0.1 : Nat) : Int))))), [])) := (evF_eq ..).trans (by kernel_rfl)
noncomputable def laws_toByteS_j1 (x0 : Int) (x1 : Sl) (x2 : Sl) : Res := (fun (p : Env × Mem) => evI cx 37 0 1 p.1 p.2) ([(4, (.d (.int .i64 x0))), (0, (.d (.sl false 1 x1.1 x1.2))), (3, (.own 0))], [(.row 1 x2.1 false false x2.2)])
theorem laws_toByteS_eq (x0 : Sl) : laws_toByteS x0 =
  oguard (decide (((0 : Int) ≤ ((x0.1 : Nat) : Int)) ∧ ((((x0.1 : Nat) : Int) = ((x0.1 : Nat) : Int)) ∧ ((((x0.1 : Nat) : Int) * (1 : Int)) ≤ (140737488351232 : Int))))) (
  olet (List.replicate (Int.toNat ((x0.1 : Nat) : Int)) ((D.int .u8 (0 : Int)) :: [])) fun (e0 : (List (List D))) =>
  laws_toByteS_j1 (0 : Int) x0 ((Int.toNat ((x0.1 : Nat) : Int)), e0)) := (evF_eq ..).trans (by kernel_rfl)
-- a loop's head
theorem laws_toByteS_j1_eq (x0 : Int) (x1 : Sl) (x2 : Sl) : laws_toByteS_j1 x0 x1 x2 =
  oite (decide (x0 < ((x1.1 : Nat) : Int)))
    (oat [(.int .u8)] x1.1 x1.2 x0 fun (t1 : (Int × Unit)) =>
    oguard (decide (((0 : Int) ≤ x0) ∧ (x0 < ((x2.1 : Nat) : Int)))) (
    olet (List.set x2.2 (Int.toNat x0) (putD (List.getD x2.2 (Int.toNat x0) []) 0 [(D.int .u8 t1.1)])) fun (e2 : (List (List D))) =>
    laws_toByteS_j1 (w64 (x0 + (1 : Int))) x1 (x2.1, e2)))
    (some ((.d (.sl false 1 x2.1 x2.2)), [])) := (evI_eq ..).trans (by kernel_rfl)
theorem impl_layoutsOk_1_eq (x0 : T_Ty) (x1 : Sl) : impl_layoutsOk_1 x0 x1 =
  ocall (.m (.one .bool)) [] (impl_lowTyOk x0 x1) fun (r0 : Bool) (m1 : Unit) =>
  some ((.d (.bool (!r0))), [(.box [(.d (.sl false 1 x1.1 x1.2))])]) := (evF_eq ..).trans (by kernel_rfl)
noncomputable def impl_blockOk_j2 (x0 : Sl) (x1 : Bool) (x2 : T_Block) : Res := (fun (p : Env × Mem) => evI cx 68 0 2 p.1 p.2) ([(1, (.d (.sl false 1 x0.1 x0.2))), (2, (.ptr 0 0)), (23, (.d (.bool x1)))], [(.box (LS.encs sh_Block x2))])
noncomputable def impl_blockOk_j1 (x0 : Sl) (x1 : T_Block) : Res := (fun (p : Env × Mem) => evI cx 68 0 1 p.1 p.2) ([(1, (.d (.sl false 1 x0.1 x0.2))), (2, (.ptr 0 0))], [(.box (LS.encs sh_Block x1))])
noncomputable def impl_blockOk_j3 (x0 : Int) (x1 : Sl) (x2 : Sl) (x3 : Int) (x4 : T_Block) : Res := (fun (p : Env × Mem) => evI cx 68 0 3 p.1 p.2) ([(37, (.d (.int .i64 x0))), (1, (.d (.sl false 1 x1.1 x1.2))), (35, (.d (.sl false 3 x2.1 x2.2))), (2, (.ptr 0 0)), (36, (.d (.int .i64 x3)))], [(.box (LS.encs sh_Block x4))])
theorem impl_blockOk_eq (x0 : T_Block) (x1 : Sl) : impl_blockOk x0 x1 =
  oite (decide (((x0.1.1 : Nat) : Int) > (60 : Int)))
    (impl_blockOk_j2 x1 true x0)
    (oite (decide (((x0.2.2.2.2.2.2.2.1.1 : Nat) : Int) > (60 : Int)))
      (impl_blockOk_j2 x1 true x0)
      (ocall (.m (.one .bool)) [] (impl_within ((x0.2.2.2.2.2.2.2.2.1.1 : Nat) : Int) (1 : Int) (1000 : Int)) fun (r0 : Bool) (m1 : Unit) =>
      impl_blockOk_j2 x1 (!r0) x0)) := (evF_eq ..).trans (by kernel_rfl)
theorem impl_blockOk_j2_eq (x0 : Sl) (x1 : Bool) (x2 : T_Block) : impl_blockOk_j2 x0 x1 x2 =
  oite x1
    (some ((.d (.bool false)), []))
    (impl_blockOk_j1 x0 x2) := (evI_eq ..).trans (by kernel_rfl)
theorem impl_blockOk_j1_eq (x0 : Sl) (x1 : T_Block) : impl_blockOk_j1 x0 x1 =
  ocall (.m (.agg sh_Ty)) [(.box sh_Block)] (impl_Block_fun x1) fun (r2 : T_Ty) (m3 : (T_Block × Unit)) =>
  osame (α := List V) [(.d (.sl false 3 x1.1.1 x1.1.2))] [(.d (.sl false 3 m3.1.1.1 m3.1.1.2))] (
  osame (α := List V) [(.d (.sl false 3 x1.2.2.2.2.2.2.2.1.1 x1.2.2.2.2.2.2.2.1.2))] [(.d (.sl false 3 m3.1.2.2.2.2.2.2.2.1.1 m3.1.2.2.2.2.2.2.2.1.2))] (
  osame (α := List V) [(.agg [(.d (.int .i64 x1.2.1)), (.d (.int .i64 x1.2.2.1)), (.d (.sl false 3 x1.2.2.2.1.1 x1.2.2.2.1.2))])] [(.agg [(.d (.int .i64 m3.1.2.1)), (.d (.int .i64 m3.1.2.2.1)), (.d (.sl false 3 m3.1.2.2.2.1.1 m3.1.2.2.2.1.2))])] (
  osame (α := List V) [(.agg [(.d (.int .i64 x1.2.2.2.2.1)), (.d (.int .i64 x1.2.2.2.2.2.1)), (.d (.sl false 3 x1.2.2.2.2.2.2.1.1 x1.2.2.2.2.2.2.1.2))])] [(.agg [(.d (.int .i64 m3.1.2.2.2.2.1)), (.d (.int .i64 m3.1.2.2.2.2.2.1)), (.d (.sl false 3 m3.1.2.2.2.2.2.2.1.1 m3.1.2.2.2.2.2.2.1.2))])] (
  ocall (.m (.one (.sl 3))) [] (slices_Concat_impl_Ty_impl_Ty (3, (((D.sl false 3 m3.1.1.1 m3.1.1.2) :: []) :: (((D.sl false 3 m3.1.2.2.2.2.2.2.2.1.1 m3.1.2.2.2.2.2.2.2.1.2) :: []) :: (((D.sl false 3 3 ((vDs (LS.encs sh_Ty (m3.1.2.1, m3.1.2.2.1, m3.1.2.2.2.1, ()))) :: ((vDs (LS.encs sh_Ty (m3.1.2.2.2.2.1, m3.1.2.2.2.2.2.1, m3.1.2.2.2.2.2.2.1, ()))) :: ((vDs (LS.encs sh_Ty r2)) :: [])))) :: []) :: []))))) fun (r4 : Sl) (m5 : Unit) =>
  impl_blockOk_j3 (0 : Int) x0 r4 ((r4.1 : Nat) : Int) m3.1)))) := (evI_eq ..).trans (by kernel_rfl)
-- a loop's head
theorem impl_blockOk_j3_eq (x0 : Int) (x1 : Sl) (x2 : Sl) (x3 : Int) (x4 : T_Block) : impl_blockOk_j3 x0 x1 x2 x3 x4 =
  oite (decide (x0 < x3))
    (oat sh_Ty x2.1 x2.2 x0 fun (t6 : T_Ty) =>
    ocall (.m (.one .bool)) [] (impl_lowTyOk t6 x1) fun (r7 : Bool) (m8 : Unit) =>
    oite (!r7)
      (some ((.d (.bool false)), []))
      (impl_blockOk_j3 (w64 (x0 + (1 : Int))) x1 x2 x3 x4))
    (ocall (.m (.one .bool)) [] (slices_ContainsFunc_impl_Ins_impl_Ins_Fimpl_blockOk_1 x4.2.2.2.2.2.2.2.2.1) fun (r9 : Bool) (m10 : Unit) =>
    some ((.d (.bool (!r9))), [])) := (evI_eq ..).trans (by kernel_rfl)
noncomputable def laws_eqByteS_j1 (x0 : Int) (x1 : Sl) (x2 : Sl) : Res := (fun (p : Env × Mem) => evI cx 43 0 1 p.1 p.2) ([(5, (.d (.int .i64 x0))), (1, (.d (.sl false 1 x1.1 x1.2))), (0, (.d (.sl false 1 x2.1 x2.2)))], [])
theorem laws_eqByteS_eq (x0 : Sl) (x1 : Sl) : laws_eqByteS x0 x1 =
  oite (!(((x0.1 : Nat) : Int) == ((x1.1 : Nat) : Int)))
    (some ((.d (.bool false)), []))
    (laws_eqByteS_j1 (0 : Int) x1 x0) := (evF_eq ..).trans (by kernel_rfl)
-- a loop's head
theorem laws_eqByteS_j1_eq (x0 : Int) (x1 : Sl) (x2 : Sl) : laws_eqByteS_j1 x0 x1 x2 =
  oite (decide (x0 < ((x2.1 : Nat) : Int)))
    (oat [(.int .u8)] x2.1 x2.2 x0 fun (t0 : (Int × Unit)) =>
    oat [(.int .u8)] x1.1 x1.2 x0 fun (t1 : (Int × Unit)) =>
    oite (!(t0.1 == t1.1))
      (some ((.d (.bool false)), []))
      (laws_eqByteS_j1 (w64 (x0 + (1 : Int))) x1 x2))
    (some ((.d (.bool true)), [])) := (evI_eq ..).trans (by kernel_rfl)
theorem impl_lowTyOk_eq (x0 : T_Ty) (x1 : Sl) : impl_lowTyOk x0 x1 =
  ocall (.m (.one .bool)) [] (impl_TyOk x0) fun (r0 : Bool) (m1 : Unit) =>
  oite r0
    (ocall (.m (.one .bool)) [] (impl_lowIn x0 x1) fun (r2 : Bool) (m3 : Unit) =>
    some ((.d (.bool r2)), []))
    (some ((.d (.bool false)), [])) := (evF_eq ..).trans (by kernel_rfl)
theorem impl_Block_fun_eq (x0 : T_Block) : impl_Block_fun x0 =
  some ((.agg (LS.encs sh_Ty ((4 : Int), (0 : Int), (2, ((vDs (LS.encs sh_Ty (x0.2.1, x0.2.2.1, x0.2.2.2.1, ()))) :: ((vDs (LS.encs sh_Ty (x0.2.2.2.2.1, x0.2.2.2.2.2.1, x0.2.2.2.2.2.2.1, ()))) :: []))), ()))), [(.box (LS.encs sh_Block x0))]) := (evF_eq ..).trans (by kernel_rfl)
noncomputable def slices_Concat_impl_Ty_impl_Ty_j1 (x0 : Int) (x1 : Int) (x2 : Sl) (x3 : Sl) (x4 : Int) : Res := (fun (p : Env × Mem) => evI cx 104 0 1 p.1 p.2) ([(11, (.d (.int .i64 x0))), (3, (.d (.int .i64 x1))), (9, (.d (.sl false 1 x2.1 x2.2))), (0, (.d (.sl false 1 x3.1 x3.2))), (10, (.d (.int .i64 x4)))], [])
noncomputable def slices_Concat_impl_Ty_impl_Ty_j2 (x0 : Int) (x1 : Sl) (x2 : Int) (x3 : Sl) : Res := (fun (p : Env × Mem) => evI cx 104 0 2 p.1 p.2) ([(27, (.d (.int .i64 x0))), (6, (.own 0)), (25, (.d (.sl false 1 x1.1 x1.2))), (26, (.d (.int .i64 x2)))], [(.row 3 x3.1 false true x3.2)])
theorem slices_Concat_impl_Ty_impl_Ty_eq (x0 : Sl) : slices_Concat_impl_Ty_impl_Ty x0 =
  slices_Concat_impl_Ty_impl_Ty_j1 (0 : Int) (0 : Int) x0 x0 ((x0.1 : Nat) : Int) := (evF_eq ..).trans (by kernel_rfl)
-- a loop's head
theorem slices_Concat_impl_Ty_impl_Ty_j1_eq (x0 : Int) (x1 : Int) (x2 : Sl) (x3 : Sl) (x4 : Int) : slices_Concat_impl_Ty_impl_Ty_j1 x0 x1 x2 x3 x4 =
  oite (decide (x0 < x4))
    (oat [(.sl 3)] x2.1 x2.2 x0 fun (t0 : (Sl × Unit)) =>
    oite (decide ((w64 (x1 + ((t0.1.1 : Nat) : Int))) < (0 : Int)))
      (none)
      (slices_Concat_impl_Ty_impl_Ty_j1 (w64 (x0 + (1 : Int))) (w64 (x1 + ((t0.1.1 : Nat) : Int))) x2 x3 x4))
    (ocall (.m (.one (.own 0))) [(.row 3 false true)] (slices_Grow_impl_Ty_impl_Ty_n x1) fun (r1 : Unit) (m2 : (Sl × Unit)) =>
    slices_Concat_impl_Ty_impl_Ty_j2 (0 : Int) x3 ((x3.1 : Nat) : Int) m2.1) := (evI_eq ..).trans (by kernel_rfl)
-- a loop's head
theorem slices_Concat_impl_Ty_impl_Ty_j2_eq (x0 : Int) (x1 : Sl) (x2 : Int) (x3 : Sl) : slices_Concat_impl_Ty_impl_Ty_j2 x0 x1 x2 x3 =
  oite (decide (x0 < x2))
    (oat [(.sl 3)] x1.1 x1.2 x0 fun (t3 : (Sl × Unit)) =>
    oguard (decide (((x3.1 + t3.1.1) * 40) ≤ 140737488351232)) (
    olet (x3.2 ++ t3.1.2) fun (e4 : (List (List D))) =>
    slices_Concat_impl_Ty_impl_Ty_j2 (w64 (x0 + (1 : Int))) x1 x2 ((x3.1 + t3.1.1), e4)))
    (some ((.d (.sl false 3 x3.1 x3.2)), [])) := (evI_eq ..).trans (by kernel_rfl)
theorem slices_ContainsFunc_impl_Ins_impl_Ins_Fimpl_blockOk_1_eq (x0 : Sl) : slices_ContainsFunc_impl_Ins_impl_Ins_Fimpl_blockOk_1 x0 =
  ocall (.m (.one (.int .i64))) [] (slices_IndexFunc_impl_Ins_impl_Ins_Fimpl_blockOk_1 x0) fun (r0 : Int) (m1 : Unit) =>
  some ((.d (.bool (decide (r0 ≥ (0 : Int))))), []) := (evF_eq ..).trans (by kernel_rfl)
theorem impl_TyOk_eq (x0 : T_Ty) : impl_TyOk x0 =
  ocall (.m (.one (.int .i64))) [] (impl_measure x0 (1 : Int)) fun (r0 : Int) (m1 : Unit) =>
  some ((.d (.bool (decide (r0 ≤ (60 : Int))))), []) := (evF_eq ..).trans (by kernel_rfl)
noncomputable def impl_lowIn_j2 (x0 : Bool) (x1 : Sl) (x2 : T_Ty) : Res := (fun (p : Env × Mem) => evI cx 125 0 2 p.1 p.2) ([(3, (.ptr 0 0)), (2, (.ptr 1 0)), (25, (.d (.bool x0)))], [(.box [(.d (.sl false 1 x1.1 x1.2))]), (.box (LS.encs sh_Ty x2))])
noncomputable def impl_lowIn_j1 (x0 : Sl) (x1 : T_Ty) : Res := (fun (p : Env × Mem) => evI cx 125 0 1 p.1 p.2) ([(3, (.ptr 0 0)), (2, (.ptr 1 0))], [(.box [(.d (.sl false 1 x0.1 x0.2))]), (.box (LS.encs sh_Ty x1))])
theorem impl_lowIn_eq (x0 : T_Ty) (x1 : Sl) : impl_lowIn x0 x1 =
  oite (x0.1 == (7 : Int))
    (impl_lowIn_j2 true x1 x0)
    (oite (x0.1 == (6 : Int))
      (oite (decide (((x0.2.2.1.1 : Nat) : Int) > (0 : Int)))
        (impl_lowIn_j2 true x1 x0)
        (impl_lowIn_j2 (decide (x0.2.1 ≥ ((x1.1 : Nat) : Int))) x1 x0))
      (impl_lowIn_j2 false x1 x0)) := (evF_eq ..).trans (by kernel_rfl)
theorem impl_lowIn_j2_eq (x0 : Bool) (x1 : Sl) (x2 : T_Ty) : impl_lowIn_j2 x0 x1 x2 =
  oite x0
    (some ((.d (.bool false)), []))
    (impl_lowIn_j1 x1 x2) := (evI_eq ..).trans (by kernel_rfl)
theorem impl_lowIn_j1_eq (x0 : Sl) (x1 : T_Ty) : impl_lowIn_j1 x0 x1 =
  ocall (.m (.one .bool)) [(.box [(.sl 1)])] (slices_ContainsFunc_impl_Ty_impl_Ty_Fimpl_lowIn_1c x1.2.2.1 x0) fun (r0 : Bool) (m1 : ((Sl × Unit) × Unit)) =>
  some ((.d (.bool (!r0))), []) := (evI_eq ..).trans (by kernel_rfl)
noncomputable def slices_Grow_impl_Ty_impl_Ty_n_j1 (x0 : Sl) : Res := (fun (p : Env × Mem) => evI cx 126 0 1 p.1 p.2) ([(0, (.own 0))], [(.row 3 x0.1 false true x0.2)])
noncomputable def slices_Grow_impl_Ty_impl_Ty_n_j1v1 (x0 : Sl) : Res := (fun (p : Env × Mem) => evI cx 126 0 1 p.1 p.2) ([(0, (.own 0))], [(.row 3 x0.1 false false x0.2)])
theorem slices_Grow_impl_Ty_impl_Ty_n_eq (x0 : Int) : slices_Grow_impl_Ty_impl_Ty_n x0 =
  oite (decide (x0 < (0 : Int)))
    (none)
    (oite (decide ((w64 (x0 - (0 : Int))) > (0 : Int)))
      (oguard true (
      olet (List.take 0 []) fun (e0 : (List (List D))) =>
      oguard (decide (((0 : Int) ≤ (w64 (x0 - (0 : Int)))) ∧ (((w64 (x0 - (0 : Int))) * (40 : Int)) ≤ (140737488351232 : Int)))) (
      olet (List.replicate (Int.toNat (w64 (x0 - (0 : Int)))) (vDs (LS.encs sh_Ty ((0 : Int), (0 : Int), (0, []), ())))) fun (e1 : (List (List D))) =>
      oguard (decide (((0 : Int) ≤ (0 : Int)) ∧ ((0 : Int) ≤ (((Int.toNat (w64 (x0 - (0 : Int)))) : Nat) : Int)))) (
      slices_Grow_impl_Ty_impl_Ty_n_j1 (0, (List.take 0 e1))))))
      (slices_Grow_impl_Ty_impl_Ty_n_j1v1 (0, []))) := (evF_eq ..).trans (by kernel_rfl)
theorem slices_Grow_impl_Ty_impl_Ty_n_j1_eq (x0 : Sl) : slices_Grow_impl_Ty_impl_Ty_n_j1 x0 =
  some ((.own 0), [(.row 3 x0.1 false true x0.2)]) := (evI_eq ..).trans (by kernel_rfl)
theorem slices_Grow_impl_Ty_impl_Ty_n_j1v1_eq (x0 : Sl) : slices_Grow_impl_Ty_impl_Ty_n_j1v1 x0 =
  some ((.own 0), [(.row 3 x0.1 false false x0.2)]) := (evI_eq ..).trans (by kernel_rfl)
noncomputable def slices_IndexFunc_impl_Ins_impl_Ins_Fimpl_blockOk_1_j1 (x0 : Int) (x1 : Sl) (x2 : Int) : Res := (fun (p : Env × Mem) => evI cx 127 0 1 p.1 p.2) ([(8, (.d (.int .i64 x0))), (0, (.d (.sl false 5 x1.1 x1.2))), (1, (.fn 107 [])), (7, (.d (.int .i64 x2)))], [])
theorem slices_IndexFunc_impl_Ins_impl_Ins_Fimpl_blockOk_1_eq (x0 : Sl) : slices_IndexFunc_impl_Ins_impl_Ins_Fimpl_blockOk_1 x0 =
  slices_IndexFunc_impl_Ins_impl_Ins_Fimpl_blockOk_1_j1 (0 : Int) x0 ((x0.1 : Nat) : Int) := (evF_eq ..).trans (by kernel_rfl)
-- a loop's head
theorem slices_IndexFunc_impl_Ins_impl_Ins_Fimpl_blockOk_1_j1_eq (x0 : Int) (x1 : Sl) (x2 : Int) : slices_IndexFunc_impl_Ins_impl_Ins_Fimpl_blockOk_1_j1 x0 x1 x2 =
  oite (decide (x0 < x2))
    (oat sh_Ins x1.1 x1.2 x0 fun (t0 : T_Ins) =>
    ocall (.m (.one .bool)) [] (impl_blockOk_1 t0) fun (r1 : Bool) (m2 : Unit) =>
    oite r1
      (some ((.d (.int .i64 x0)), []))
      (slices_IndexFunc_impl_Ins_impl_Ins_Fimpl_blockOk_1_j1 (w64 (x0 + (1 : Int))) x1 x2))
    (some ((.d (.int .i64 (-1 : Int))), [])) := (evI_eq ..).trans (by kernel_rfl)
noncomputable def impl_measure_j2 (x0 : Int) (x1 : Bool) (x2 : T_Ty) : Res := (fun (p : Env × Mem) => evI cx 144 0 2 p.1 p.2) ([(1, (.d (.int .i64 x0))), (2, (.ptr 0 0)), (14, (.d (.bool x1)))], [(.box (LS.encs sh_Ty x2))])
noncomputable def impl_measure_j1 (x0 : Int) (x1 : T_Ty) : Res := (fun (p : Env × Mem) => evI cx 144 0 1 p.1 p.2) ([(1, (.d (.int .i64 x0))), (2, (.ptr 0 0))], [(.box (LS.encs sh_Ty x1))])
noncomputable def impl_measure_j3 (x0 : Int) (x1 : Int) (x2 : Int) (x3 : Sl) (x4 : Int) : Res := (fun (p : Env × Mem) => evI cx 144 0 3 p.1 p.2) ([(18, (.d (.int .i64 x0))), (1, (.d (.int .i64 x1))), (5, (.d (.int .i64 x2))), (16, (.d (.sl false 3 x3.1 x3.2))), (17, (.d (.int .i64 x4)))], [])
theorem impl_measure_eq (x0 : T_Ty) (x1 : Int) : impl_measure x0 x1 =
  oite (decide (x1 > (10 : Int)))
    (impl_measure_j2 x1 true x0)
    (ocall (.m (.one .bool)) [] (impl_headOk x0) fun (r0 : Bool) (m1 : Unit) =>
    impl_measure_j2 x1 (!r0) x0) := (evF_eq ..).trans (by kernel_rfl)
theorem impl_measure_j2_eq (x0 : Int) (x1 : Bool) (x2 : T_Ty) : impl_measure_j2 x0 x1 x2 =
  oite x1
    (some ((.d (.int .i64 (61 : Int))), []))
    (impl_measure_j1 x0 x2) := (evI_eq ..).trans (by kernel_rfl)
theorem impl_measure_j1_eq (x0 : Int) (x1 : T_Ty) : impl_measure_j1 x0 x1 =
  impl_measure_j3 (0 : Int) x0 (1 : Int) x1.2.2.1 ((x1.2.2.1.1 : Nat) : Int) := (evI_eq ..).trans (by kernel_rfl)
-- a loop's head
theorem impl_measure_j3_eq (x0 : Int) (x1 : Int) (x2 : Int) (x3 : Sl) (x4 : Int) : impl_measure_j3 x0 x1 x2 x3 x4 =
  oite (decide (x0 < x4))
    (oat sh_Ty x3.1 x3.2 x0 fun (t2 : T_Ty) =>
    ocall (.m (.one (.int .i64))) [] (impl_measure t2 (w64 (x1 + (1 : Int)))) fun (r3 : Int) (m4 : Unit) =>
    oite (decide ((w64 (x2 + r3)) > (60 : Int)))
      (some ((.d (.int .i64 (61 : Int))), []))
      (impl_measure_j3 (w64 (x0 + (1 : Int))) x1 (w64 (x2 + r3)) x3 x4))
    (some ((.d (.int .i64 x2)), [])) := (evI_eq ..).trans (by kernel_rfl)
theorem slices_ContainsFunc_impl_Ty_impl_Ty_Fimpl_lowIn_1c_eq (x0 : Sl) (x1 : Sl) : slices_ContainsFunc_impl_Ty_impl_Ty_Fimpl_lowIn_1c x0 x1 =
  ocall (.m (.one (.int .i64))) [(.box [(.sl 1)])] (slices_IndexFunc_impl_Ty_impl_Ty_Fimpl_lowIn_1c x0 x1) fun (r0 : Int) (m1 : ((Sl × Unit) × Unit)) =>
  some ((.d (.bool (decide (r0 ≥ (0 : Int))))), [(.box [(.d (.sl false 1 m1.1.1.1 m1.1.1.2))])]) := (evF_eq ..).trans (by kernel_rfl)
theorem impl_blockOk_1_eq (x0 : T_Ins) : impl_blockOk_1 x0 =
  ocall (.m (.one .bool)) [] (impl_InsOk x0) fun (r0 : Bool) (m1 : Unit) =>
  some ((.d (.bool (!r0))), []) := (evF_eq ..).trans (by kernel_rfl)
noncomputable def impl_headOk_j2 (x0 : Bool) (x1 : T_Ty) : Res := (fun (p : Env × Mem) => evI cx 155 0 2 p.1 p.2) ([(1, (.ptr 0 0)), (25, (.d (.bool x0)))], [(.box (LS.encs sh_Ty x1))])
noncomputable def impl_headOk_j1 (x0 : T_Ty) : Res := (fun (p : Env × Mem) => evI cx 155 0 1 p.1 p.2) ([(1, (.ptr 0 0))], [(.box (LS.encs sh_Ty x0))])
theorem impl_headOk_eq (x0 : T_Ty) : impl_headOk x0 =
  ocall (.m (.one (.int .i64))) [] (impl_argsOf x0.1) fun (r0 : Int) (m1 : Unit) =>
  oite (r0 == (-1 : Int))
    (oite (decide (((x0.2.2.1.1 : Nat) : Int) > (3 : Int)))
      (impl_headOk_j2 true x0)
      (oite (!(r0 == (-1 : Int)))
        (impl_headOk_j2 (!(r0 == ((x0.2.2.1.1 : Nat) : Int))) x0)
        (impl_headOk_j2 false x0)))
    (oite (!(r0 == (-1 : Int)))
      (impl_headOk_j2 (!(r0 == ((x0.2.2.1.1 : Nat) : Int))) x0)
      (impl_headOk_j2 false x0)) := (evF_eq ..).trans (by kernel_rfl)
theorem impl_headOk_j2_eq (x0 : Bool) (x1 : T_Ty) : impl_headOk_j2 x0 x1 =
  oite x0
    (some ((.d (.bool false)), []))
    (impl_headOk_j1 x1) := (evI_eq ..).trans (by kernel_rfl)
theorem impl_headOk_j1_eq (x0 : T_Ty) : impl_headOk_j1 x0 =
  oite (x0.1 == (6 : Int))
    (ocall (.m (.one .bool)) [] (impl_within x0.2.1 (0 : Int) (19 : Int)) fun (r2 : Bool) (m3 : Unit) =>
    some ((.d (.bool r2)), []))
    (oite (x0.1 == (7 : Int))
      (ocall (.m (.one .bool)) [] (impl_within x0.2.1 (0 : Int) (99999 : Int)) fun (r4 : Bool) (m5 : Unit) =>
      some ((.d (.bool r4)), []))
      (some ((.d (.bool (x0.2.1 == (0 : Int)))), []))) := (evI_eq ..).trans (by kernel_rfl)
noncomputable def slices_IndexFunc_impl_Ty_impl_Ty_Fimpl_lowIn_1c_j1 (x0 : Int) (x1 : Sl) (x2 : Int) (x3 : Sl) : Res := (fun (p : Env × Mem) => evI cx 123 1 1 p.1 p.2) ([(8, (.d (.int .i64 x0))), (0, (.d (.sl false 3 x1.1 x1.2))), (1, (.fn 145 [(.ptr 0 0)])), (7, (.d (.int .i64 x2)))], [(.box [(.d (.sl false 1 x3.1 x3.2))])])
theorem slices_IndexFunc_impl_Ty_impl_Ty_Fimpl_lowIn_1c_eq (x0 : Sl) (x1 : Sl) : slices_IndexFunc_impl_Ty_impl_Ty_Fimpl_lowIn_1c x0 x1 =
  slices_IndexFunc_impl_Ty_impl_Ty_Fimpl_lowIn_1c_j1 (0 : Int) x0 ((x0.1 : Nat) : Int) x1 := (evF_eq ..).trans (by kernel_rfl)
-- a loop's head
theorem slices_IndexFunc_impl_Ty_impl_Ty_Fimpl_lowIn_1c_j1_eq (x0 : Int) (x1 : Sl) (x2 : Int) (x3 : Sl) : slices_IndexFunc_impl_Ty_impl_Ty_Fimpl_lowIn_1c_j1 x0 x1 x2 x3 =
  oite (decide (x0 < x2))
    (oat sh_Ty x1.1 x1.2 x0 fun (t0 : T_Ty) =>
    ocall (.m (.one .bool)) [(.box [(.sl 1)])] (impl_lowIn_1 t0 x3) fun (r1 : Bool) (m2 : ((Sl × Unit) × Unit)) =>
    oite r1
      (some ((.d (.int .i64 x0)), [(.box [(.d (.sl false 1 m2.1.1.1 m2.1.1.2))])]))
      (slices_IndexFunc_impl_Ty_impl_Ty_Fimpl_lowIn_1c_j1 (w64 (x0 + (1 : Int))) x1 x2 m2.1.1))
    (some ((.d (.int .i64 (-1 : Int))), [(.box [(.d (.sl false 1 x3.1 x3.2))])])) := (evI_eq ..).trans (by kernel_rfl)
noncomputable def impl_InsOk_j3 (x0 : Bool) (x1 : T_Ins) (x2 : Bool) (x3 : Bool) (x4 : Bool) (x5 : Bool) : Res := (fun (p : Env × Mem) => evI cx 108 0 3 p.1 p.2) ([(1, (.ptr 0 0)), (3, (.ptr 1 0)), (11, (.d (.bool x0)))], [(.box (LS.encs sh_Ins x1)), (.box [(.d (.bool x2)), (.d (.bool x3)), (.d (.bool x4)), (.d (.bool x5))])])
noncomputable def impl_InsOk_j2 (x0 : Bool) (x1 : T_Ins) (x2 : Bool) (x3 : Bool) (x4 : Bool) (x5 : Bool) : Res := (fun (p : Env × Mem) => evI cx 108 0 2 p.1 p.2) ([(1, (.ptr 0 0)), (3, (.ptr 1 0)), (11, (.d (.bool x0)))], [(.box (LS.encs sh_Ins x1)), (.box [(.d (.bool x2)), (.d (.bool x3)), (.d (.bool x4)), (.d (.bool x5))])])
noncomputable def impl_InsOk_j4 (x0 : Bool) (x1 : T_Ins) (x2 : Bool) (x3 : Bool) (x4 : Bool) (x5 : Bool) : Res := (fun (p : Env × Mem) => evI cx 108 0 4 p.1 p.2) ([(1, (.ptr 0 0)), (3, (.ptr 1 0)), (11, (.d (.bool x0)))], [(.box (LS.encs sh_Ins x1)), (.box [(.d (.bool x2)), (.d (.bool x3)), (.d (.bool x4)), (.d (.bool x5))])])
noncomputable def impl_InsOk_j6 (x0 : Bool) (x1 : T_Ins) (x2 : Bool) (x3 : Bool) (x4 : Bool) (x5 : Bool) : Res := (fun (p : Env × Mem) => evI cx 108 0 6 p.1 p.2) ([(1, (.ptr 0 0)), (3, (.ptr 1 0)), (34, (.d (.bool x0)))], [(.box (LS.encs sh_Ins x1)), (.box [(.d (.bool x2)), (.d (.bool x3)), (.d (.bool x4)), (.d (.bool x5))])])
noncomputable def impl_InsOk_j5 (x0 : Bool) (x1 : T_Ins) (x2 : Bool) (x3 : Bool) (x4 : Bool) (x5 : Bool) : Res := (fun (p : Env × Mem) => evI cx 108 0 5 p.1 p.2) ([(1, (.ptr 0 0)), (3, (.ptr 1 0)), (34, (.d (.bool x0)))], [(.box (LS.encs sh_Ins x1)), (.box [(.d (.bool x2)), (.d (.bool x3)), (.d (.bool x4)), (.d (.bool x5))])])
noncomputable def impl_InsOk_j7 (x0 : Bool) (x1 : T_Ins) (x2 : Bool) (x3 : Bool) (x4 : Bool) (x5 : Bool) : Res := (fun (p : Env × Mem) => evI cx 108 0 7 p.1 p.2) ([(1, (.ptr 0 0)), (3, (.ptr 1 0)), (34, (.d (.bool x0)))], [(.box (LS.encs sh_Ins x1)), (.box [(.d (.bool x2)), (.d (.bool x3)), (.d (.bool x4)), (.d (.bool x5))])])
noncomputable def impl_InsOk_j10 (x0 : Bool) (x1 : T_Ins) (x2 : Bool) (x3 : Bool) (x4 : Bool) (x5 : Bool) : Res := (fun (p : Env × Mem) => evI cx 108 0 10 p.1 p.2) ([(1, (.ptr 0 0)), (69, (.d (.bool x0))), (3, (.ptr 1 0))], [(.box (LS.encs sh_Ins x1)), (.box [(.d (.bool x2)), (.d (.bool x3)), (.d (.bool x4)), (.d (.bool x5))])])
noncomputable def impl_InsOk_j8 (x0 : Bool) (x1 : T_Ins) (x2 : Bool) (x3 : Bool) (x4 : Bool) (x5 : Bool) : Res := (fun (p : Env × Mem) => evI cx 108 0 8 p.1 p.2) ([(1, (.ptr 0 0)), (3, (.ptr 1 0)), (34, (.d (.bool x0)))], [(.box (LS.encs sh_Ins x1)), (.box [(.d (.bool x2)), (.d (.bool x3)), (.d (.bool x4)), (.d (.bool x5))])])
noncomputable def impl_InsOk_j9 (x0 : Bool) (x1 : T_Ins) : Res := (fun (p : Env × Mem) => evI cx 108 0 9 p.1 p.2) ([(1, (.ptr 0 0)), (69, (.d (.bool x0)))], [(.box (LS.encs sh_Ins x1))])
noncomputable def impl_InsOk_j1 (x0 : T_Ins) : Res := (fun (p : Env × Mem) => evI cx 108 0 1 p.1 p.2) ([(1, (.ptr 0 0))], [(.box (LS.encs sh_Ins x0))])
theorem impl_InsOk_eq (x0 : T_Ins) : impl_InsOk x0 =
  ocall (.m (.one .bool)) [] (impl_within x0.1 (0 : Int) (31 : Int)) fun (r0 : Bool) (m1 : Unit) =>
  oite (!r0)
    (some ((.d (.bool false)), []))
    (ocall (.m (.agg [.bool, .bool, .bool, .bool])) [] (impl_partsOfIns x0.1) fun (r2 : (Bool × (Bool × (Bool × (Bool × Unit))))) (m3 : Unit) =>
    oite (x0.1 == (1 : Int))
      (ocall (.m (.one .bool)) [] (impl_wholeOk x0.2.1) fun (r4 : Bool) (m5 : Unit) =>
      impl_InsOk_j3 (!r4) x0 r2.1 r2.2.1 r2.2.2.1 r2.2.2.2.1)
      (impl_InsOk_j3 false x0 r2.1 r2.2.1 r2.2.2.1 r2.2.2.2.1)) := (evF_eq ..).trans (by kernel_rfl)
theorem impl_InsOk_j3_eq (x0 : Bool) (x1 : T_Ins) (x2 : Bool) (x3 : Bool) (x4 : Bool) (x5 : Bool) : impl_InsOk_j3 x0 x1 x2 x3 x4 x5 =
  oite x0
    (impl_InsOk_j2 x0 x1 x2 x3 x4 x5)
    (oite (!(x1.1 == (1 : Int)))
      (ocall (.m (.one .bool)) [] (impl_within x1.2.1 (0 : Int) (2147483647 : Int)) fun (r6 : Bool) (m7 : Unit) =>
      impl_InsOk_j4 (!r6) x1 x2 x3 x4 x5)
      (impl_InsOk_j4 false x1 x2 x3 x4 x5)) := (evI_eq ..).trans (by kernel_rfl)
theorem impl_InsOk_j2_eq (x0 : Bool) (x1 : T_Ins) (x2 : Bool) (x3 : Bool) (x4 : Bool) (x5 : Bool) : impl_InsOk_j2 x0 x1 x2 x3 x4 x5 =
  oite x0
    (some ((.d (.bool false)), []))
    (oite (!x2)
      (impl_InsOk_j6 (!(x1.2.1 == (0 : Int))) x1 x2 x3 x4 x5)
      (impl_InsOk_j6 false x1 x2 x3 x4 x5)) := (evI_eq ..).trans (by kernel_rfl)
theorem impl_InsOk_j4_eq (x0 : Bool) (x1 : T_Ins) (x2 : Bool) (x3 : Bool) (x4 : Bool) (x5 : Bool) : impl_InsOk_j4 x0 x1 x2 x3 x4 x5 =
  oite x0
    (impl_InsOk_j2 x0 x1 x2 x3 x4 x5)
    (ocall (.m (.one .bool)) [] (impl_within x1.2.2.1 (0 : Int) (2147483647 : Int)) fun (r8 : Bool) (m9 : Unit) =>
    impl_InsOk_j2 (!r8) x1 x2 x3 x4 x5) := (evI_eq ..).trans (by kernel_rfl)
theorem impl_InsOk_j6_eq (x0 : Bool) (x1 : T_Ins) (x2 : Bool) (x3 : Bool) (x4 : Bool) (x5 : Bool) : impl_InsOk_j6 x0 x1 x2 x3 x4 x5 =
  oite x0
    (impl_InsOk_j5 x0 x1 x2 x3 x4 x5)
    (oite (!x3)
      (impl_InsOk_j7 (!(x1.2.2.1 == (0 : Int))) x1 x2 x3 x4 x5)
      (impl_InsOk_j7 false x1 x2 x3 x4 x5)) := (evI_eq ..).trans (by kernel_rfl)
theorem impl_InsOk_j5_eq (x0 : Bool) (x1 : T_Ins) (x2 : Bool) (x3 : Bool) (x4 : Bool) (x5 : Bool) : impl_InsOk_j5 x0 x1 x2 x3 x4 x5 =
  oite x0
    (some ((.d (.bool false)), []))
    (oite x4
      (ocall (.m (.one .bool)) [] (impl_within ((x1.2.2.2.2.1.1 : Nat) : Int) (1 : Int) (5 : Int)) fun (r10 : Bool) (m11 : Unit) =>
      impl_InsOk_j10 (!r10) x1 x2 x3 x4 x5)
      (impl_InsOk_j10 false x1 x2 x3 x4 x5)) := (evI_eq ..).trans (by kernel_rfl)
theorem impl_InsOk_j7_eq (x0 : Bool) (x1 : T_Ins) (x2 : Bool) (x3 : Bool) (x4 : Bool) (x5 : Bool) : impl_InsOk_j7 x0 x1 x2 x3 x4 x5 =
  oite x0
    (impl_InsOk_j5 x0 x1 x2 x3 x4 x5)
    (oite (!x4)
      (impl_InsOk_j8 (decide (((x1.2.2.2.2.1.1 : Nat) : Int) > (0 : Int))) x1 x2 x3 x4 x5)
      (impl_InsOk_j8 false x1 x2 x3 x4 x5)) := (evI_eq ..).trans (by kernel_rfl)
theorem impl_InsOk_j10_eq (x0 : Bool) (x1 : T_Ins) (x2 : Bool) (x3 : Bool) (x4 : Bool) (x5 : Bool) : impl_InsOk_j10 x0 x1 x2 x3 x4 x5 =
  oite x0
    (impl_InsOk_j9 x0 x1)
    (oite x5
      (ocall (.m (.one .bool)) [] (impl_litOk x1.2.2.2.1) fun (r12 : Bool) (m13 : Unit) =>
      impl_InsOk_j9 (!r12) x1)
      (impl_InsOk_j9 false x1)) := (evI_eq ..).trans (by kernel_rfl)
theorem impl_InsOk_j8_eq (x0 : Bool) (x1 : T_Ins) (x2 : Bool) (x3 : Bool) (x4 : Bool) (x5 : Bool) : impl_InsOk_j8 x0 x1 x2 x3 x4 x5 =
  oite x0
    (impl_InsOk_j5 x0 x1 x2 x3 x4 x5)
    (oite (!x5)
      (impl_InsOk_j5 (decide (((x1.2.2.2.1.1 : Nat) : Int) > (0 : Int))) x1 x2 x3 x4 x5)
      (impl_InsOk_j5 false x1 x2 x3 x4 x5)) := (evI_eq ..).trans (by kernel_rfl)
theorem impl_InsOk_j9_eq (x0 : Bool) (x1 : T_Ins) : impl_InsOk_j9 x0 x1 =
  oite x0
    (some ((.d (.bool false)), []))
    (impl_InsOk_j1 x1) := (evI_eq ..).trans (by kernel_rfl)
theorem impl_InsOk_j1_eq (x0 : T_Ins) : impl_InsOk_j1 x0 =
  ocall (.m (.one .bool)) [] (slices_ContainsFunc_int_int_Fimpl_InsOk_1 x0.2.2.2.2.1) fun (r14 : Bool) (m15 : Unit) =>
  some ((.d (.bool (!r14))), []) := (evI_eq ..).trans (by kernel_rfl)
noncomputable def impl_argsOf_j1 (x0 : Int) (x1 : Bool) : Res := (fun (p : Env × Mem) => evI cx 158 0 1 p.1 p.2) ([(3, (.d (.int .i64 x0))), (4, (.d (.bool x1)))], [])
noncomputable def impl_argsOf_j2 (x0 : Int) (x1 : Bool) : Res := (fun (p : Env × Mem) => evI cx 158 0 2 p.1 p.2) ([(3, (.d (.int .i64 x0))), (9, (.d (.bool x1)))], [])
theorem impl_argsOf_eq (x0 : Int) : impl_argsOf x0 =
  oite (x0 == (0 : Int))
    (impl_argsOf_j1 x0 (x0 == (0 : Int)))
    (oite (x0 == (1 : Int))
      (impl_argsOf_j1 x0 (x0 == (1 : Int)))
      (oite (x0 == (2 : Int))
        (impl_argsOf_j1 x0 (x0 == (2 : Int)))
        (impl_argsOf_j1 x0 (x0 == (7 : Int))))) := (evF_eq ..).trans (by kernel_rfl)
theorem impl_argsOf_j1_eq (x0 : Int) (x1 : Bool) : impl_argsOf_j1 x0 x1 =
  oite x1
    (some ((.d (.int .i64 (0 : Int))), []))
    (oite (x0 == (3 : Int))
      (impl_argsOf_j2 x0 (x0 == (3 : Int)))
      (impl_argsOf_j2 x0 (x0 == (4 : Int)))) := (evI_eq ..).trans (by kernel_rfl)
theorem impl_argsOf_j2_eq (x0 : Int) (x1 : Bool) : impl_argsOf_j2 x0 x1 =
  oite x1
    (some ((.d (.int .i64 (2 : Int))), []))
    (oite (x0 == (5 : Int))
      (some ((.d (.int .i64 (1 : Int))), []))
      (oite (x0 == (6 : Int))
        (some ((.d (.int .i64 (-1 : Int))), []))
        (some ((.d (.int .i64 (-2 : Int))), [])))) := (evI_eq ..).trans (by kernel_rfl)
theorem impl_lowIn_1_eq (x0 : T_Ty) (x1 : Sl) : impl_lowIn_1 x0 x1 =
  ocall (.m (.one .bool)) [] (impl_lowIn x0 x1) fun (r0 : Bool) (m1 : Unit) =>
  some ((.d (.bool (!r0))), [(.box [(.d (.sl false 1 x1.1 x1.2))])]) := (evF_eq ..).trans (by kernel_rfl)
theorem impl_wholeOk_eq (x0 : Int) : impl_wholeOk x0 =
  ocall (.m (.one .bool)) [] (impl_within x0 (-1073741824 : Int) (1073741823 : Int)) fun (r0 : Bool) (m1 : Unit) =>
  some ((.d (.bool r0)), []) := (evF_eq ..).trans (by kernel_rfl)
theorem impl_litOk_eq (x0 : Sl) : impl_litOk x0 =
  oite (decide (((x0.1 : Nat) : Int) ≤ (20 : Int)))
    (ocall (.m (.one .bool)) [] (slices_ContainsFunc_byte_byte_Fimpl_litOk_1 x0) fun (r0 : Bool) (m1 : Unit) =>
    some ((.d (.bool (!r0))), []))
    (some ((.d (.bool false)), [])) := (evF_eq ..).trans (by kernel_rfl)
theorem slices_ContainsFunc_int_int_Fimpl_InsOk_1_eq (x0 : Sl) : slices_ContainsFunc_int_int_Fimpl_InsOk_1 x0 =
  ocall (.m (.one (.int .i64))) [] (slices_IndexFunc_int_int_Fimpl_InsOk_1 x0) fun (r0 : Int) (m1 : Unit) =>
  some ((.d (.bool (decide (r0 ≥ (0 : Int))))), []) := (evF_eq ..).trans (by kernel_rfl)
theorem slices_ContainsFunc_byte_byte_Fimpl_litOk_1_eq (x0 : Sl) : slices_ContainsFunc_byte_byte_Fimpl_litOk_1 x0 =
  ocall (.m (.one (.int .i64))) [] (slices_IndexFunc_byte_byte_Fimpl_litOk_1 x0) fun (r0 : Int) (m1 : Unit) =>
  some ((.d (.bool (decide (r0 ≥ (0 : Int))))), []) := (evF_eq ..).trans (by kernel_rfl)
noncomputable def slices_IndexFunc_int_int_Fimpl_InsOk_1_j1 (x0 : Int) (x1 : Sl) (x2 : Int) : Res := (fun (p : Env × Mem) => evI cx 148 0 1 p.1 p.2) ([(8, (.d (.int .i64 x0))), (0, (.d (.sl false 1 x1.1 x1.2))), (1, (.fn 131 [])), (7, (.d (.int .i64 x2)))], [])
theorem slices_IndexFunc_int_int_Fimpl_InsOk_1_eq (x0 : Sl) : slices_IndexFunc_int_int_Fimpl_InsOk_1 x0 =
  slices_IndexFunc_int_int_Fimpl_InsOk_1_j1 (0 : Int) x0 ((x0.1 : Nat) : Int) := (evF_eq ..).trans (by kernel_rfl)
-- a loop's head
theorem slices_IndexFunc_int_int_Fimpl_InsOk_1_j1_eq (x0 : Int) (x1 : Sl) (x2 : Int) : slices_IndexFunc_int_int_Fimpl_InsOk_1_j1 x0 x1 x2 =
  oite (decide (x0 < x2))
    (oat [(.int .i64)] x1.1 x1.2 x0 fun (t0 : (Int × Unit)) =>
    ocall (.m (.one .bool)) [] (impl_InsOk_1 t0.1) fun (r1 : Bool) (m2 : Unit) =>
    oite r1
      (some ((.d (.int .i64 x0)), []))
      (slices_IndexFunc_int_int_Fimpl_InsOk_1_j1 (w64 (x0 + (1 : Int))) x1 x2))
    (some ((.d (.int .i64 (-1 : Int))), [])) := (evI_eq ..).trans (by kernel_rfl)
noncomputable def slices_IndexFunc_byte_byte_Fimpl_litOk_1_j1 (x0 : Int) (x1 : Sl) (x2 : Int) : Res := (fun (p : Env × Mem) => evI cx 156 0 1 p.1 p.2) ([(8, (.d (.int .i64 x0))), (0, (.d (.sl false 1 x1.1 x1.2))), (1, (.fn 147 [])), (7, (.d (.int .i64 x2)))], [])
theorem slices_IndexFunc_byte_byte_Fimpl_litOk_1_eq (x0 : Sl) : slices_IndexFunc_byte_byte_Fimpl_litOk_1 x0 =
  slices_IndexFunc_byte_byte_Fimpl_litOk_1_j1 (0 : Int) x0 ((x0.1 : Nat) : Int) := (evF_eq ..).trans (by kernel_rfl)
-- a loop's head
theorem slices_IndexFunc_byte_byte_Fimpl_litOk_1_j1_eq (x0 : Int) (x1 : Sl) (x2 : Int) : slices_IndexFunc_byte_byte_Fimpl_litOk_1_j1 x0 x1 x2 =
  oite (decide (x0 < x2))
    (oat [(.int .u8)] x1.1 x1.2 x0 fun (t0 : (Int × Unit)) =>
    ocall (.m (.one .bool)) [] (impl_litOk_1 t0.1) fun (r1 : Bool) (m2 : Unit) =>
    oite r1
      (some ((.d (.int .i64 x0)), []))
      (slices_IndexFunc_byte_byte_Fimpl_litOk_1_j1 (w64 (x0 + (1 : Int))) x1 x2))
    (some ((.d (.int .i64 (-1 : Int))), [])) := (evI_eq ..).trans (by kernel_rfl)
theorem impl_InsOk_1_eq (x0 : Int) : impl_InsOk_1 x0 =
  ocall (.m (.one .bool)) [] (impl_within x0 (0 : Int) (2147483647 : Int)) fun (r0 : Bool) (m1 : Unit) =>
  some ((.d (.bool (!r0))), []) := (evF_eq ..).trans (by kernel_rfl)
theorem impl_litOk_1_eq (x0 : Int) : impl_litOk_1 x0 =
  oite (decide (x0 < (32 : Int)))
    (some ((.d (.bool true)), []))
    (oite (decide (x0 > (126 : Int)))
      (some ((.d (.bool true)), []))
      (oite (x0 == (34 : Int))
        (some ((.d (.bool true)), []))
        (some ((.d (.bool (x0 == (92 : Int)))), [])))) := (evF_eq ..).trans (by kernel_rfl)
theorem ty26 : TIok Try.prog 26 ⟨3, 72, true, (.st [(0, 22), (1, 23), (2, 24)]), [.d (.sl true 1 0 []), .d (.sl true 9 0 []), .d (.sl true 1 0 [])], [.sl 1, .sl 9, .sl 1]⟩ := ⟨Try.sizeOf26, Try.isAgg26, ⟨_, Try.runUnderlying26, rfl, f_cons Try.sizeOf22 (f_cons Try.sizeOf23 (f_cons Try.sizeOf24 (f_end)))⟩, ⟨_, Try.typeInfo26, rfl⟩, by decide, by decide, ⟨_, Try.zeroValue26, rfl, fun w C ι => z_cons z_nil (z_cons z_nil (z_cons z_nil (z_end)))⟩⟩
theorem ty22 : TIok Try.prog 22 ⟨1, 24, false, (.sl 89), [.d (.sl true 1 0 [])], [.sl 1]⟩ := ⟨Try.sizeOf22, Try.isAgg22, Try.runUnderlying22, ⟨_, Try.typeInfo22, rfl⟩, by decide, by decide, ⟨_, Try.zeroValue22, rfl, fun w C ι => z_cons z_nil (z_end)⟩⟩
theorem ty89 : TIok Try.prog 89 ⟨1, 24, true, (.st [(0, 87)]), [.d (.sl true 1 0 [])], [.sl 1]⟩ := ⟨Try.sizeOf89, Try.isAgg89, ⟨_, Try.runUnderlying89, rfl, f_cons Try.sizeOf87 (f_end)⟩, ⟨_, Try.typeInfo89, rfl⟩, by decide, by decide, ⟨_, Try.zeroValue89, rfl, fun w C ι => z_cons z_nil (z_end)⟩⟩
theorem ty87 : TIok Try.prog 87 ⟨1, 24, false, (.sl 37), [.d (.sl true 1 0 [])], [.sl 1]⟩ := ⟨Try.sizeOf87, Try.isAgg87, Try.runUnderlying87, ⟨_, Try.typeInfo87, rfl⟩, by decide, by decide, ⟨_, Try.zeroValue87, rfl, fun w C ι => z_cons z_nil (z_end)⟩⟩
theorem ty37 : TIok Try.prog 37 ⟨1, 24, false, (.sl 39), [.d (.sl true 3 0 [])], [.sl 3]⟩ := ⟨Try.sizeOf37, Try.isAgg37, Try.runUnderlying37, ⟨_, Try.typeInfo37, rfl⟩, by decide, by decide, ⟨_, Try.zeroValue37, rfl, fun w C ι => z_cons z_nil (z_end)⟩⟩
theorem ty39 : TIok Try.prog 39 ⟨3, 40, true, (.st [(0, 3), (1, 3), (2, 37)]), [.d (.int .i64 0), .d (.int .i64 0), .d (.sl true 3 0 [])], [.int .i64, .int .i64, .sl 3]⟩ := ⟨Try.sizeOf39, Try.isAgg39, ⟨_, Try.runUnderlying39, rfl, f_cons Try.sizeOf3 (f_cons Try.sizeOf3 (f_cons Try.sizeOf37 (f_end)))⟩, ⟨_, Try.typeInfo39, rfl⟩, by decide, by decide, ⟨_, Try.zeroValue39, rfl, fun w C ι => z_cons z_int (z_cons z_int (z_cons z_nil (z_end)))⟩⟩
theorem ty3 : TIok Try.prog 3 ⟨1, 8, false, (.int .i64), [.d (.int .i64 0)], [.int .i64]⟩ := ⟨Try.sizeOf3, Try.isAgg3, Try.runUnderlying3, ⟨_, Try.typeInfo3, rfl⟩, by decide, by decide, ⟨_, Try.zeroValue3, rfl, fun w C ι => z_cons z_int (z_end)⟩⟩
theorem ty23 : TIok Try.prog 23 ⟨1, 24, false, (.sl 93), [.d (.sl true 9 0 [])], [.sl 9]⟩ := ⟨Try.sizeOf23, Try.isAgg23, Try.runUnderlying23, ⟨_, Try.typeInfo23, rfl⟩, by decide, by decide, ⟨_, Try.zeroValue23, rfl, fun w C ι => z_cons z_nil (z_end)⟩⟩
theorem ty93 : TIok Try.prog 93 ⟨9, 152, true, (.st [(0, 37), (1, 39), (4, 39), (7, 37), (8, 91)]), [.d (.sl true 3 0 []), .d (.int .i64 0), .d (.int .i64 0), .d (.sl true 3 0 []), .d (.int .i64 0), .d (.int .i64 0), .d (.sl true 3 0 []), .d (.sl true 3 0 []), .d (.sl true 5 0 [])], [.sl 3, .int .i64, .int .i64, .sl 3, .int .i64, .int .i64, .sl 3, .sl 3, .sl 5]⟩ := ⟨Try.sizeOf93, Try.isAgg93, ⟨_, Try.runUnderlying93, rfl, f_cons Try.sizeOf37 (f_cons Try.sizeOf39 (f_cons Try.sizeOf39 (f_cons Try.sizeOf37 (f_cons Try.sizeOf91 (f_end)))))⟩, ⟨_, Try.typeInfo93, rfl⟩, by decide, by decide, ⟨_, Try.zeroValue93, rfl, fun w C ι => z_cons z_nil (z_cons z_int (z_cons z_int (z_cons z_nil (z_cons z_int (z_cons z_int (z_cons z_nil (z_cons z_nil (z_cons z_nil (z_end)))))))))⟩⟩
theorem ty91 : TIok Try.prog 91 ⟨1, 24, false, (.sl 166), [.d (.sl true 5 0 [])], [.sl 5]⟩ := ⟨Try.sizeOf91, Try.isAgg91, Try.runUnderlying91, ⟨_, Try.typeInfo91, rfl⟩, by decide, by decide, ⟨_, Try.zeroValue91, rfl, fun w C ι => z_cons z_nil (z_end)⟩⟩
theorem ty166 : TIok Try.prog 166 ⟨5, 72, true, (.st [(0, 3), (1, 3), (2, 3), (3, 36), (4, 24)]), [.d (.int .i64 0), .d (.int .i64 0), .d (.int .i64 0), .d (.sl true 1 0 []), .d (.sl true 1 0 [])], [.int .i64, .int .i64, .int .i64, .sl 1, .sl 1]⟩ := ⟨Try.sizeOf166, Try.isAgg166, ⟨_, Try.runUnderlying166, rfl, f_cons Try.sizeOf3 (f_cons Try.sizeOf3 (f_cons Try.sizeOf3 (f_cons Try.sizeOf36 (f_cons Try.sizeOf24 (f_end)))))⟩, ⟨_, Try.typeInfo166, rfl⟩, by decide, by decide, ⟨_, Try.zeroValue166, rfl, fun w C ι => z_cons z_int (z_cons z_int (z_cons z_int (z_cons z_nil (z_cons z_nil (z_end)))))⟩⟩
theorem ty36 : TIok Try.prog 36 ⟨1, 24, false, (.sl 5), [.d (.sl true 1 0 [])], [.sl 1]⟩ := ⟨Try.sizeOf36, Try.isAgg36, Try.runUnderlying36, ⟨_, Try.typeInfo36, rfl⟩, by decide, by decide, ⟨_, Try.zeroValue36, rfl, fun w C ι => z_cons z_nil (z_end)⟩⟩
theorem ty5 : TIok Try.prog 5 ⟨1, 1, false, (.int .u8), [.d (.int .u8 0)], [.int .u8]⟩ := ⟨Try.sizeOf5, Try.isAgg5, Try.runUnderlying5, ⟨_, Try.typeInfo5, rfl⟩, by decide, by decide, ⟨_, Try.zeroValue5, rfl, fun w C ι => z_cons z_int (z_end)⟩⟩
theorem ty24 : TIok Try.prog 24 ⟨1, 24, false, (.sl 3), [.d (.sl true 1 0 [])], [.sl 1]⟩ := ⟨Try.sizeOf24, Try.isAgg24, Try.runUnderlying24, ⟨_, Try.typeInfo24, rfl⟩, by decide, by decide, ⟨_, Try.zeroValue24, rfl, fun w C ι => z_cons z_nil (z_end)⟩⟩
theorem ty4 : TIok Try.prog 4 ⟨1, 1, false, .bool, [.d (.bool false)], [.bool]⟩ := ⟨Try.sizeOf4, Try.isAgg4, Try.runUnderlying4, ⟨_, Try.typeInfo4, rfl⟩, by decide, by decide, ⟨_, Try.zeroValue4, rfl, fun w C ι => z_cons z_bool (z_end)⟩⟩
theorem ty32 : TIok Try.prog 32 ⟨3, 72, true, (.st [(0, 29), (1, 30), (2, 24)]), [.d (.sl true 1 0 []), .d (.sl true 9 0 []), .d (.sl true 1 0 [])], [.sl 1, .sl 9, .sl 1]⟩ := ⟨Try.sizeOf32, Try.isAgg32, ⟨_, Try.runUnderlying32, rfl, f_cons Try.sizeOf29 (f_cons Try.sizeOf30 (f_cons Try.sizeOf24 (f_end)))⟩, ⟨_, Try.typeInfo32, rfl⟩, by decide, by decide, ⟨_, Try.zeroValue32, rfl, fun w C ι => z_cons z_nil (z_cons z_nil (z_cons z_nil (z_end)))⟩⟩
theorem ty29 : TIok Try.prog 29 ⟨1, 24, false, (.sl 106), [.d (.sl true 1 0 [])], [.sl 1]⟩ := ⟨Try.sizeOf29, Try.isAgg29, Try.runUnderlying29, ⟨_, Try.typeInfo29, rfl⟩, by decide, by decide, ⟨_, Try.zeroValue29, rfl, fun w C ι => z_cons z_nil (z_end)⟩⟩
theorem ty106 : TIok Try.prog 106 ⟨1, 24, true, (.st [(0, 104)]), [.d (.sl true 1 0 [])], [.sl 1]⟩ := ⟨Try.sizeOf106, Try.isAgg106, ⟨_, Try.runUnderlying106, rfl, f_cons Try.sizeOf104 (f_end)⟩, ⟨_, Try.typeInfo106, rfl⟩, by decide, by decide, ⟨_, Try.zeroValue106, rfl, fun w C ι => z_cons z_nil (z_end)⟩⟩
theorem ty104 : TIok Try.prog 104 ⟨1, 24, false, (.sl 46), [.d (.sl true 1 0 [])], [.sl 1]⟩ := ⟨Try.sizeOf104, Try.isAgg104, Try.runUnderlying104, ⟨_, Try.typeInfo104, rfl⟩, by decide, by decide, ⟨_, Try.zeroValue104, rfl, fun w C ι => z_cons z_nil (z_end)⟩⟩
theorem ty46 : TIok Try.prog 46 ⟨1, 24, false, (.sl 48), [.d (.sl true 3 0 [])], [.sl 3]⟩ := ⟨Try.sizeOf46, Try.isAgg46, Try.runUnderlying46, ⟨_, Try.typeInfo46, rfl⟩, by decide, by decide, ⟨_, Try.zeroValue46, rfl, fun w C ι => z_cons z_nil (z_end)⟩⟩
theorem ty48 : TIok Try.prog 48 ⟨3, 40, true, (.st [(0, 3), (1, 3), (2, 46)]), [.d (.int .i64 0), .d (.int .i64 0), .d (.sl true 3 0 [])], [.int .i64, .int .i64, .sl 3]⟩ := ⟨Try.sizeOf48, Try.isAgg48, ⟨_, Try.runUnderlying48, rfl, f_cons Try.sizeOf3 (f_cons Try.sizeOf3 (f_cons Try.sizeOf46 (f_end)))⟩, ⟨_, Try.typeInfo48, rfl⟩, by decide, by decide, ⟨_, Try.zeroValue48, rfl, fun w C ι => z_cons z_int (z_cons z_int (z_cons z_nil (z_end)))⟩⟩
theorem ty30 : TIok Try.prog 30 ⟨1, 24, false, (.sl 97), [.d (.sl true 9 0 [])], [.sl 9]⟩ := ⟨Try.sizeOf30, Try.isAgg30, Try.runUnderlying30, ⟨_, Try.typeInfo30, rfl⟩, by decide, by decide, ⟨_, Try.zeroValue30, rfl, fun w C ι => z_cons z_nil (z_end)⟩⟩
theorem ty97 : TIok Try.prog 97 ⟨9, 152, true, (.st [(0, 46), (1, 48), (4, 48), (7, 46), (8, 95)]), [.d (.sl true 3 0 []), .d (.int .i64 0), .d (.int .i64 0), .d (.sl true 3 0 []), .d (.int .i64 0), .d (.int .i64 0), .d (.sl true 3 0 []), .d (.sl true 3 0 []), .d (.sl true 5 0 [])], [.sl 3, .int .i64, .int .i64, .sl 3, .int .i64, .int .i64, .sl 3, .sl 3, .sl 5]⟩ := ⟨Try.sizeOf97, Try.isAgg97, ⟨_, Try.runUnderlying97, rfl, f_cons Try.sizeOf46 (f_cons Try.sizeOf48 (f_cons Try.sizeOf48 (f_cons Try.sizeOf46 (f_cons Try.sizeOf95 (f_end)))))⟩, ⟨_, Try.typeInfo97, rfl⟩, by decide, by decide, ⟨_, Try.zeroValue97, rfl, fun w C ι => z_cons z_nil (z_cons z_int (z_cons z_int (z_cons z_nil (z_cons z_int (z_cons z_int (z_cons z_nil (z_cons z_nil (z_cons z_nil (z_end)))))))))⟩⟩
theorem ty95 : TIok Try.prog 95 ⟨1, 24, false, (.sl 102), [.d (.sl true 5 0 [])], [.sl 5]⟩ := ⟨Try.sizeOf95, Try.isAgg95, Try.runUnderlying95, ⟨_, Try.typeInfo95, rfl⟩, by decide, by decide, ⟨_, Try.zeroValue95, rfl, fun w C ι => z_cons z_nil (z_end)⟩⟩
theorem ty102 : TIok Try.prog 102 ⟨5, 72, true, (.st [(0, 3), (1, 3), (2, 3), (3, 36), (4, 24)]), [.d (.int .i64 0), .d (.int .i64 0), .d (.int .i64 0), .d (.sl true 1 0 []), .d (.sl true 1 0 [])], [.int .i64, .int .i64, .int .i64, .sl 1, .sl 1]⟩ := ⟨Try.sizeOf102, Try.isAgg102, ⟨_, Try.runUnderlying102, rfl, f_cons Try.sizeOf3 (f_cons Try.sizeOf3 (f_cons Try.sizeOf3 (f_cons Try.sizeOf36 (f_cons Try.sizeOf24 (f_end)))))⟩, ⟨_, Try.typeInfo102, rfl⟩, by decide, by decide, ⟨_, Try.zeroValue102, rfl, fun w C ι => z_cons z_int (z_cons z_int (z_cons z_int (z_cons z_nil (z_cons z_nil (z_end)))))⟩⟩
theorem ty43 : TIok Try.prog 43 ⟨13, 184, true, (.st [(0, 3), (1, 3), (2, 3), (3, 3), (4, 36), (5, 39), (8, 39), (11, 40), (12, 41)]), [.d (.int .i64 0), .d (.int .i64 0), .d (.int .i64 0), .d (.int .i64 0), .d (.sl true 1 0 []), .d (.int .i64 0), .d (.int .i64 0), .d (.sl true 3 0 []), .d (.int .i64 0), .d (.int .i64 0), .d (.sl true 3 0 []), .d (.sl true 13 0 []), .d (.sl true 15 0 [])], [.int .i64, .int .i64, .int .i64, .int .i64, .sl 1, .int .i64, .int .i64, .sl 3, .int .i64, .int .i64, .sl 3, .sl 13, .sl 15]⟩ := ⟨Try.sizeOf43, Try.isAgg43, ⟨_, Try.runUnderlying43, rfl, f_cons Try.sizeOf3 (f_cons Try.sizeOf3 (f_cons Try.sizeOf3 (f_cons Try.sizeOf3 (f_cons Try.sizeOf36 (f_cons Try.sizeOf39 (f_cons Try.sizeOf39 (f_cons Try.sizeOf40 (f_cons Try.sizeOf41 (f_end)))))))))⟩, ⟨_, Try.typeInfo43, rfl⟩, by decide, by decide, ⟨_, Try.zeroValue43, rfl, fun w C ι => z_cons z_int (z_cons z_int (z_cons z_int (z_cons z_int (z_cons z_nil (z_cons z_int (z_cons z_int (z_cons z_nil (z_cons z_int (z_cons z_int (z_cons z_nil (z_cons z_nil (z_cons z_nil (z_end)))))))))))))⟩⟩
theorem ty40 : TIok Try.prog 40 ⟨1, 24, false, (.sl 43), [.d (.sl true 13 0 [])], [.sl 13]⟩ := ⟨Try.sizeOf40, Try.isAgg40, Try.runUnderlying40, ⟨_, Try.typeInfo40, rfl⟩, by decide, by decide, ⟨_, Try.zeroValue40, rfl, fun w C ι => z_cons z_nil (z_end)⟩⟩
theorem ty41 : TIok Try.prog 41 ⟨1, 24, false, (.sl 123), [.d (.sl true 15 0 [])], [.sl 15]⟩ := ⟨Try.sizeOf41, Try.isAgg41, Try.runUnderlying41, ⟨_, Try.typeInfo41, rfl⟩, by decide, by decide, ⟨_, Try.zeroValue41, rfl, fun w C ι => z_cons z_nil (z_end)⟩⟩
theorem ty123 : TIok Try.prog 123 ⟨15, 216, true, (.st [(0, 3), (1, 24), (2, 43)]), [.d (.int .i64 0), .d (.sl true 1 0 []), .d (.int .i64 0), .d (.int .i64 0), .d (.int .i64 0), .d (.int .i64 0), .d (.sl true 1 0 []), .d (.int .i64 0), .d (.int .i64 0), .d (.sl true 3 0 []), .d (.int .i64 0), .d (.int .i64 0), .d (.sl true 3 0 []), .d (.sl true 13 0 []), .d (.sl true 15 0 [])], [.int .i64, .sl 1, .int .i64, .int .i64, .int .i64, .int .i64, .sl 1, .int .i64, .int .i64, .sl 3, .int .i64, .int .i64, .sl 3, .sl 13, .sl 15]⟩ := ⟨Try.sizeOf123, Try.isAgg123, ⟨_, Try.runUnderlying123, rfl, f_cons Try.sizeOf3 (f_cons Try.sizeOf24 (f_cons Try.sizeOf43 (f_end)))⟩, ⟨_, Try.typeInfo123, rfl⟩, by decide, by decide, ⟨_, Try.zeroValue123, rfl, fun w C ι => z_cons z_int (z_cons z_nil (z_cons z_int (z_cons z_int (z_cons z_int (z_cons z_int (z_cons z_nil (z_cons z_int (z_cons z_int (z_cons z_nil (z_cons z_int (z_cons z_int (z_cons z_nil (z_cons z_nil (z_cons z_nil (z_end)))))))))))))))⟩⟩
theorem ty52 : TIok Try.prog 52 ⟨13, 184, true, (.st [(0, 3), (1, 3), (2, 3), (3, 3), (4, 36), (5, 48), (8, 48), (11, 49), (12, 50)]), [.d (.int .i64 0), .d (.int .i64 0), .d (.int .i64 0), .d (.int .i64 0), .d (.sl true 1 0 []), .d (.int .i64 0), .d (.int .i64 0), .d (.sl true 3 0 []), .d (.int .i64 0), .d (.int .i64 0), .d (.sl true 3 0 []), .d (.sl true 13 0 []), .d (.sl true 15 0 [])], [.int .i64, .int .i64, .int .i64, .int .i64, .sl 1, .int .i64, .int .i64, .sl 3, .int .i64, .int .i64, .sl 3, .sl 13, .sl 15]⟩ := ⟨Try.sizeOf52, Try.isAgg52, ⟨_, Try.runUnderlying52, rfl, f_cons Try.sizeOf3 (f_cons Try.sizeOf3 (f_cons Try.sizeOf3 (f_cons Try.sizeOf3 (f_cons Try.sizeOf36 (f_cons Try.sizeOf48 (f_cons Try.sizeOf48 (f_cons Try.sizeOf49 (f_cons Try.sizeOf50 (f_end)))))))))⟩, ⟨_, Try.typeInfo52, rfl⟩, by decide, by decide, ⟨_, Try.zeroValue52, rfl, fun w C ι => z_cons z_int (z_cons z_int (z_cons z_int (z_cons z_int (z_cons z_nil (z_cons z_int (z_cons z_int (z_cons z_nil (z_cons z_int (z_cons z_int (z_cons z_nil (z_cons z_nil (z_cons z_nil (z_end)))))))))))))⟩⟩
theorem ty49 : TIok Try.prog 49 ⟨1, 24, false, (.sl 52), [.d (.sl true 13 0 [])], [.sl 13]⟩ := ⟨Try.sizeOf49, Try.isAgg49, Try.runUnderlying49, ⟨_, Try.typeInfo49, rfl⟩, by decide, by decide, ⟨_, Try.zeroValue49, rfl, fun w C ι => z_cons z_nil (z_end)⟩⟩
theorem ty50 : TIok Try.prog 50 ⟨1, 24, false, (.sl 129), [.d (.sl true 15 0 [])], [.sl 15]⟩ := ⟨Try.sizeOf50, Try.isAgg50, Try.runUnderlying50, ⟨_, Try.typeInfo50, rfl⟩, by decide, by decide, ⟨_, Try.zeroValue50, rfl, fun w C ι => z_cons z_nil (z_end)⟩⟩
theorem ty129 : TIok Try.prog 129 ⟨15, 216, true, (.st [(0, 3), (1, 24), (2, 52)]), [.d (.int .i64 0), .d (.sl true 1 0 []), .d (.int .i64 0), .d (.int .i64 0), .d (.int .i64 0), .d (.int .i64 0), .d (.sl true 1 0 []), .d (.int .i64 0), .d (.int .i64 0), .d (.sl true 3 0 []), .d (.int .i64 0), .d (.int .i64 0), .d (.sl true 3 0 []), .d (.sl true 13 0 []), .d (.sl true 15 0 [])], [.int .i64, .sl 1, .int .i64, .int .i64, .int .i64, .int .i64, .sl 1, .int .i64, .int .i64, .sl 3, .int .i64, .int .i64, .sl 3, .sl 13, .sl 15]⟩ := ⟨Try.sizeOf129, Try.isAgg129, ⟨_, Try.runUnderlying129, rfl, f_cons Try.sizeOf3 (f_cons Try.sizeOf24 (f_cons Try.sizeOf52 (f_end)))⟩, ⟨_, Try.typeInfo129, rfl⟩, by decide, by decide, ⟨_, Try.zeroValue129, rfl, fun w C ι => z_cons z_int (z_cons z_nil (z_cons z_int (z_cons z_int (z_cons z_int (z_cons z_int (z_cons z_nil (z_cons z_int (z_cons z_int (z_cons z_nil (z_cons z_int (z_cons z_int (z_cons z_nil (z_cons z_nil (z_cons z_nil (z_end)))))))))))))))⟩⟩
theorem ty78 : TIok Try.prog 78 ⟨1, 8, false, .other, [.undef], [.undef]⟩ := ⟨Try.sizeOf78, Try.isAgg78, trivial, ⟨_, Try.typeInfo78, rfl⟩, by decide, by decide, ⟨_, Try.zeroValue78, rfl, fun w C ι => z_cons z_un (z_end)⟩⟩
theorem ty116 : TIok Try.prog 116 ⟨1, 8, false, .other, [.undef], [.undef]⟩ := ⟨Try.sizeOf116, Try.isAgg116, trivial, ⟨_, Try.typeInfo116, rfl⟩, by decide, by decide, ⟨_, Try.zeroValue116, rfl, fun w C ι => z_cons z_un (z_end)⟩⟩
theorem ty125 : TIok Try.prog 125 ⟨1, 8, false, .other, [.undef], [.undef]⟩ := ⟨Try.sizeOf125, Try.isAgg125, trivial, ⟨_, Try.typeInfo125, rfl⟩, by decide, by decide, ⟨_, Try.zeroValue125, rfl, fun w C ι => z_cons z_un (z_end)⟩⟩
theorem ty133 : TIok Try.prog 133 ⟨1, 8, false, .other, [.undef], [.undef]⟩ := ⟨Try.sizeOf133, Try.isAgg133, trivial, ⟨_, Try.typeInfo133, rfl⟩, by decide, by decide, ⟨_, Try.zeroValue133, rfl, fun w C ι => z_cons z_un (z_end)⟩⟩
theorem ty135 : TIok Try.prog 135 ⟨1, 8, false, .other, [.undef], [.undef]⟩ := ⟨Try.sizeOf135, Try.isAgg135, trivial, ⟨_, Try.typeInfo135, rfl⟩, by decide, by decide, ⟨_, Try.zeroValue135, rfl, fun w C ι => z_cons z_un (z_end)⟩⟩
theorem ty142 : TIok Try.prog 142 ⟨1, 8, false, .other, [.undef], [.undef]⟩ := ⟨Try.sizeOf142, Try.isAgg142, trivial, ⟨_, Try.typeInfo142, rfl⟩, by decide, by decide, ⟨_, Try.zeroValue142, rfl, fun w C ι => z_cons z_un (z_end)⟩⟩
theorem ty100 : TIok Try.prog 100 ⟨1, 8, false, .other, [.undef], [.undef]⟩ := ⟨Try.sizeOf100, Try.isAgg100, trivial, ⟨_, Try.typeInfo100, rfl⟩, by decide, by decide, ⟨_, Try.zeroValue100, rfl, fun w C ι => z_cons z_un (z_end)⟩⟩
theorem ty156 : TIok Try.prog 156 ⟨1, 8, false, (.int .u64), [.d (.int .u64 0)], [.int .u64]⟩ := ⟨Try.sizeOf156, Try.isAgg156, Try.runUnderlying156, ⟨_, Try.typeInfo156, rfl⟩, by decide, by decide, ⟨_, Try.zeroValue156, rfl, fun w C ι => z_cons z_int (z_end)⟩⟩
theorem ty158 : TIok Try.prog 158 ⟨4, 4, true, (.st [(0, 4), (1, 4), (2, 4), (3, 4)]), [.d (.bool false), .d (.bool false), .d (.bool false), .d (.bool false)], [.bool, .bool, .bool, .bool]⟩ := ⟨Try.sizeOf158, Try.isAgg158, ⟨_, Try.runUnderlying158, rfl, f_cons Try.sizeOf4 (f_cons Try.sizeOf4 (f_cons Try.sizeOf4 (f_cons Try.sizeOf4 (f_end))))⟩, ⟨_, Try.typeInfo158, rfl⟩, by decide, by decide, ⟨_, Try.zeroValue158, rfl, fun w C ι => z_cons z_bool (z_cons z_bool (z_cons z_bool (z_cons z_bool (z_end))))⟩⟩
theorem ty1 : TIok Try.prog 1 ⟨1, 8, false, .other, [.undef], [.undef]⟩ := ⟨Try.sizeOf1, Try.isAgg1, trivial, ⟨_, Try.typeInfo1, rfl⟩, by decide, by decide, ⟨_, Try.zeroValue1, rfl, fun w C ι => z_cons z_un (z_end)⟩⟩
theorem ty20 : TIok Try.prog 20 ⟨1, 16, false, .other, [.undef], [.undef]⟩ := ⟨Try.sizeOf20, Try.isAgg20, trivial, ⟨_, Try.typeInfo20, rfl⟩, by decide, by decide, ⟨_, Try.zeroValue20, rfl, fun w C ι => z_cons z_un (z_end)⟩⟩
theorem ty9 : TIok Try.prog 9 ⟨1, 16, false, .str, [.d (.str ⟨#[]⟩)], [.str]⟩ := ⟨Try.sizeOf9, Try.isAgg9, Try.runUnderlying9, ⟨_, Try.typeInfo9, rfl⟩, by decide, by decide, ⟨_, Try.zeroValue9, rfl, fun w C ι => z_cons z_str (z_end)⟩⟩
theorem ty170 : TIok Try.prog 170 ⟨1, 8, false, .other, [.undef], [.undef]⟩ := ⟨Try.sizeOf170, Try.isAgg170, trivial, ⟨_, Try.typeInfo170, rfl⟩, by decide, by decide, ⟨_, Try.zeroValue170, rfl, fun w C ι => z_cons z_un (z_end)⟩⟩
theorem ty145 : TIok Try.prog 145 ⟨1, 8, false, .other, [.undef], [.undef]⟩ := ⟨Try.sizeOf145, Try.isAgg145, trivial, ⟨_, Try.typeInfo145, rfl⟩, by decide, by decide, ⟨_, Try.zeroValue145, rfl, fun w C ι => z_cons z_un (z_end)⟩⟩
theorem ty175 : TIok Try.prog 175 ⟨1, 8, false, (.int .i64), [.d (.int .i64 0)], [.int .i64]⟩ := ⟨Try.sizeOf175, Try.isAgg175, Try.runUnderlying175, ⟨_, Try.typeInfo175, rfl⟩, by decide, by decide, ⟨_, Try.zeroValue175, rfl, fun w C ι => z_cons z_int (z_end)⟩⟩
theorem ty183 : TIok Try.prog 183 ⟨1, 4, false, (.int .u32), [.d (.int .u32 0)], [.int .u32]⟩ := ⟨Try.sizeOf183, Try.isAgg183, Try.runUnderlying183, ⟨_, Try.typeInfo183, rfl⟩, by decide, by decide, ⟨_, Try.zeroValue183, rfl, fun w C ι => z_cons z_int (z_end)⟩⟩
theorem ty185 : TIok Try.prog 185 ⟨1, 8, false, (.int .u64), [.d (.int .u64 0)], [.int .u64]⟩ := ⟨Try.sizeOf185, Try.isAgg185, Try.runUnderlying185, ⟨_, Try.typeInfo185, rfl⟩, by decide, by decide, ⟨_, Try.zeroValue185, rfl, fun w C ι => z_cons z_int (z_end)⟩⟩
theorem ty187 : TIok Try.prog 187 ⟨1, 8, false, .other, [.undef], [.undef]⟩ := ⟨Try.sizeOf187, Try.isAgg187, trivial, ⟨_, Try.typeInfo187, rfl⟩, by decide, by decide, ⟨_, Try.zeroValue187, rfl, fun w C ι => z_cons z_un (z_end)⟩⟩
theorem ty189 : TIok Try.prog 189 ⟨1, 8, false, (.int .u64), [.d (.int .u64 0)], [.int .u64]⟩ := ⟨Try.sizeOf189, Try.isAgg189, Try.runUnderlying189, ⟨_, Try.typeInfo189, rfl⟩, by decide, by decide, ⟨_, Try.zeroValue189, rfl, fun w C ι => z_cons z_int (z_end)⟩⟩
theorem ty195 : TIok Try.prog 195 ⟨1, 8, false, .other, [.undef], [.undef]⟩ := ⟨Try.sizeOf195, Try.isAgg195, trivial, ⟨_, Try.typeInfo195, rfl⟩, by decide, by decide, ⟨_, Try.zeroValue195, rfl, fun w C ι => z_cons z_un (z_end)⟩⟩
theorem ty8 : TIok Try.prog 8 ⟨4, 24, true, (.st [(0, 2), (1, 3), (2, 4), (3, 6)]), [.d (.int .i64 0), .d (.int .i64 0), .d (.bool false), .d (.int .u8 0)], [.int .i64, .int .i64, .bool, .int .u8]⟩ := ⟨Try.sizeOf8, Try.isAgg8, ⟨_, Try.runUnderlying8, rfl, f_cons Try.sizeOf2 (f_cons Try.sizeOf3 (f_cons Try.sizeOf4 (f_cons Try.sizeOf6 (f_end))))⟩, ⟨_, Try.typeInfo8, rfl⟩, by decide, by decide, ⟨_, Try.zeroValue8, rfl, fun w C ι => z_cons z_int (z_cons z_int (z_cons z_bool (z_cons z_int (z_end))))⟩⟩
theorem ty2 : TIok Try.prog 2 ⟨1, 8, false, (.int .i64), [.d (.int .i64 0)], [.int .i64]⟩ := ⟨Try.sizeOf2, Try.isAgg2, Try.runUnderlying2, ⟨_, Try.typeInfo2, rfl⟩, by decide, by decide, ⟨_, Try.zeroValue2, rfl, fun w C ι => z_cons z_int (z_end)⟩⟩
theorem ty6 : TIok Try.prog 6 ⟨1, 1, false, (.int .u8), [.d (.int .u8 0)], [.int .u8]⟩ := ⟨Try.sizeOf6, Try.isAgg6, Try.runUnderlying6, ⟨_, Try.typeInfo6, rfl⟩, by decide, by decide, ⟨_, Try.zeroValue6, rfl, fun w C ι => z_cons z_int (z_end)⟩⟩
theorem ty10 : TIok Try.prog 10 ⟨1, 16, false, .str, [.d (.str ⟨#[]⟩)], [.str]⟩ := ⟨Try.sizeOf10, Try.isAgg10, Try.runUnderlying10, ⟨_, Try.typeInfo10, rfl⟩, by decide, by decide, ⟨_, Try.zeroValue10, rfl, fun w C ι => z_cons z_str (z_end)⟩⟩
theorem ty11 : TIok Try.prog 11 ⟨1, 16, false, .str, [.d (.str ⟨#[]⟩)], [.str]⟩ := ⟨Try.sizeOf11, Try.isAgg11, Try.runUnderlying11, ⟨_, Try.typeInfo11, rfl⟩, by decide, by decide, ⟨_, Try.zeroValue11, rfl, fun w C ι => z_cons z_str (z_end)⟩⟩
theorem ty14 : TIok Try.prog 14 ⟨2, 24, true, (.st [(0, 9), (1, 12)]), [.d (.str ⟨#[]⟩), .d (.int .u64 0)], [.str, .int .u64]⟩ := ⟨Try.sizeOf14, Try.isAgg14, ⟨_, Try.runUnderlying14, rfl, f_cons Try.sizeOf9 (f_cons Try.sizeOf12 (f_end))⟩, ⟨_, Try.typeInfo14, rfl⟩, by decide, by decide, ⟨_, Try.zeroValue14, rfl, fun w C ι => z_cons z_str (z_cons z_int (z_end))⟩⟩
theorem ty12 : TIok Try.prog 12 ⟨1, 8, false, (.int .u64), [.d (.int .u64 0)], [.int .u64]⟩ := ⟨Try.sizeOf12, Try.isAgg12, Try.runUnderlying12, ⟨_, Try.typeInfo12, rfl⟩, by decide, by decide, ⟨_, Try.zeroValue12, rfl, fun w C ι => z_cons z_int (z_end)⟩⟩
theorem ty15 : TIok Try.prog 15 ⟨1, 8, false, .other, [.undef], [.undef]⟩ := ⟨Try.sizeOf15, Try.isAgg15, trivial, ⟨_, Try.typeInfo15, rfl⟩, by decide, by decide, ⟨_, Try.zeroValue15, rfl, fun w C ι => z_cons z_un (z_end)⟩⟩
theorem ty200 : TIok Try.prog 200 ⟨4, 40, true, (.st [(0, 17), (1, 17), (2, 17), (3, 9)]), [.undef, .undef, .undef, .d (.str ⟨#[]⟩)], [.undef, .undef, .undef, .str]⟩ := ⟨Try.sizeOf200, Try.isAgg200, ⟨_, Try.runUnderlying200, rfl, f_cons Try.sizeOf17 (f_cons Try.sizeOf17 (f_cons Try.sizeOf17 (f_cons Try.sizeOf9 (f_end))))⟩, ⟨_, Try.typeInfo200, rfl⟩, by decide, by decide, ⟨_, Try.zeroValue200, rfl, fun w C ι => z_cons z_un (z_cons z_un (z_cons z_un (z_cons z_str (z_end))))⟩⟩
theorem ty17 : TIok Try.prog 17 ⟨1, 8, false, .other, [.undef], [.undef]⟩ := ⟨Try.sizeOf17, Try.isAgg17, trivial, ⟨_, Try.typeInfo17, rfl⟩, by decide, by decide, ⟨_, Try.zeroValue17, rfl, fun w C ι => z_cons z_un (z_end)⟩⟩
theorem ty212 : TIok Try.prog 212 ⟨11, 48, true, (.st [(0, 12), (1, 12), (2, 183), (3, 205), (4, 5), (5, 5), (6, 206), (7, 207), (8, 208), (9, 209), (10, 210)]), [.d (.int .u64 0), .d (.int .u64 0), .d (.int .u32 0), .d (.int .u8 0), .d (.int .u8 0), .d (.int .u8 0), .d (.int .u8 0), .undef, .undef, .d (.int .i32 0), .d (.int .i32 0)], [.int .u64, .int .u64, .int .u32, .int .u8, .int .u8, .int .u8, .int .u8, .undef, .undef, .int .i32, .int .i32]⟩ := ⟨Try.sizeOf212, Try.isAgg212, ⟨_, Try.runUnderlying212, rfl, f_cons Try.sizeOf12 (f_cons Try.sizeOf12 (f_cons Try.sizeOf183 (f_cons Try.sizeOf205 (f_cons Try.sizeOf5 (f_cons Try.sizeOf5 (f_cons Try.sizeOf206 (f_cons Try.sizeOf207 (f_cons Try.sizeOf208 (f_cons Try.sizeOf209 (f_cons Try.sizeOf210 (f_end)))))))))))⟩, ⟨_, Try.typeInfo212, rfl⟩, by decide, by decide, ⟨_, Try.zeroValue212, rfl, fun w C ι => z_cons z_int (z_cons z_int (z_cons z_int (z_cons z_int (z_cons z_int (z_cons z_int (z_cons z_int (z_cons z_un (z_cons z_un (z_cons z_int (z_cons z_int (z_end)))))))))))⟩⟩
theorem ty205 : TIok Try.prog 205 ⟨1, 1, false, (.int .u8), [.d (.int .u8 0)], [.int .u8]⟩ := ⟨Try.sizeOf205, Try.isAgg205, Try.runUnderlying205, ⟨_, Try.typeInfo205, rfl⟩, by decide, by decide, ⟨_, Try.zeroValue205, rfl, fun w C ι => z_cons z_int (z_end)⟩⟩
theorem ty206 : TIok Try.prog 206 ⟨1, 1, false, (.int .u8), [.d (.int .u8 0)], [.int .u8]⟩ := ⟨Try.sizeOf206, Try.isAgg206, Try.runUnderlying206, ⟨_, Try.typeInfo206, rfl⟩, by decide, by decide, ⟨_, Try.zeroValue206, rfl, fun w C ι => z_cons z_int (z_end)⟩⟩
theorem ty207 : TIok Try.prog 207 ⟨1, 8, false, .other, [.undef], [.undef]⟩ := ⟨Try.sizeOf207, Try.isAgg207, trivial, ⟨_, Try.typeInfo207, rfl⟩, by decide, by decide, ⟨_, Try.zeroValue207, rfl, fun w C ι => z_cons z_un (z_end)⟩⟩
theorem ty208 : TIok Try.prog 208 ⟨1, 8, false, .other, [.undef], [.undef]⟩ := ⟨Try.sizeOf208, Try.isAgg208, trivial, ⟨_, Try.typeInfo208, rfl⟩, by decide, by decide, ⟨_, Try.zeroValue208, rfl, fun w C ι => z_cons z_un (z_end)⟩⟩
theorem ty209 : TIok Try.prog 209 ⟨1, 4, false, (.int .i32), [.d (.int .i32 0)], [.int .i32]⟩ := ⟨Try.sizeOf209, Try.isAgg209, Try.runUnderlying209, ⟨_, Try.typeInfo209, rfl⟩, by decide, by decide, ⟨_, Try.zeroValue209, rfl, fun w C ι => z_cons z_int (z_end)⟩⟩
theorem ty210 : TIok Try.prog 210 ⟨1, 4, false, (.int .i32), [.d (.int .i32 0)], [.int .i32]⟩ := ⟨Try.sizeOf210, Try.isAgg210, Try.runUnderlying210, ⟨_, Try.typeInfo210, rfl⟩, by decide, by decide, ⟨_, Try.zeroValue210, rfl, fun w C ι => z_cons z_int (z_end)⟩⟩
theorem ty16 : TIok Try.prog 16 ⟨1, 8, false, .other, [.undef], [.undef]⟩ := ⟨Try.sizeOf16, Try.isAgg16, trivial, ⟨_, Try.typeInfo16, rfl⟩, by decide, by decide, ⟨_, Try.zeroValue16, rfl, fun w C ι => z_cons z_un (z_end)⟩⟩
theorem ty19 : TIok Try.prog 19 ⟨1, 8, true, (.st [(0, 17)]), [.undef], [.undef]⟩ := ⟨Try.sizeOf19, Try.isAgg19, ⟨_, Try.runUnderlying19, rfl, f_cons Try.sizeOf17 (f_end)⟩, ⟨_, Try.typeInfo19, rfl⟩, by decide, by decide, ⟨_, Try.zeroValue19, rfl, fun w C ι => z_cons z_un (z_end)⟩⟩
theorem fn3 : FnOk Try.prog 3 I3 := ⟨Try.call3, Try.func3, by kernel_rfl, by kernel_rfl, by kernel_rfl⟩
theorem fn5 : FnOk Try.prog 5 I5 := ⟨Try.call5, Try.func5, by kernel_rfl, by kernel_rfl, by kernel_rfl⟩
theorem fn6 : FnOk Try.prog 6 I6 := ⟨Try.call6, Try.func6, by kernel_rfl, by kernel_rfl, by kernel_rfl⟩
theorem fn7 : FnOk Try.prog 7 I7 := ⟨Try.call7, Try.func7, by kernel_rfl, by kernel_rfl, by kernel_rfl⟩
theorem fn8 : FnOk Try.prog 8 I8 := ⟨Try.call8, Try.func8, by kernel_rfl, by kernel_rfl, by kernel_rfl⟩
theorem fn9 : FnOk Try.prog 9 I9 := ⟨Try.call9, Try.func9, by kernel_rfl, by kernel_rfl, by kernel_rfl⟩
theorem fn14 : FnOk Try.prog 14 I14 := ⟨Try.call14, Try.func14, by kernel_rfl, by kernel_rfl, by kernel_rfl⟩
theorem fn19 : FnOk Try.prog 19 I19 := ⟨Try.call19, Try.func19, by kernel_rfl, by kernel_rfl, by kernel_rfl⟩
theorem fn20 : FnOk Try.prog 20 I20 := ⟨Try.call20, Try.func20, by kernel_rfl, by kernel_rfl, by kernel_rfl⟩
theorem fn21 : FnOk Try.prog 21 I21 := ⟨Try.call21, Try.func21, by kernel_rfl, by kernel_rfl, by kernel_rfl⟩
theorem fn22 : FnOk Try.prog 22 I22 := ⟨Try.call22, Try.func22, by kernel_rfl, by kernel_rfl, by kernel_rfl⟩
theorem fn23 : FnOk Try.prog 23 I23 := ⟨Try.call23, Try.func23, by kernel_rfl, by kernel_rfl, by kernel_rfl⟩
theorem fn24 : FnOk Try.prog 24 I24 := ⟨Try.call24, Try.func24, by kernel_rfl, by kernel_rfl, by kernel_rfl⟩
theorem fn25 : FnOk Try.prog 25 I25 := ⟨Try.call25, Try.func25, by kernel_rfl, by kernel_rfl, by kernel_rfl⟩
theorem fn26 : FnOk Try.prog 26 I26 := ⟨Try.call26, Try.func26, by kernel_rfl, by kernel_rfl, by kernel_rfl⟩
theorem fn27 : FnOk Try.prog 27 I27 := ⟨Try.call27, Try.func27, by kernel_rfl, by kernel_rfl, by kernel_rfl⟩
theorem fn28 : FnOk Try.prog 28 I28 := ⟨Try.call28, Try.func28, by kernel_rfl, by kernel_rfl, by kernel_rfl⟩
theorem fn29 : FnOk Try.prog 29 I29 := ⟨Try.call29, Try.func29, by kernel_rfl, by kernel_rfl, by kernel_rfl⟩
theorem fn30 : FnOk Try.prog 30 I30 := ⟨Try.call30, Try.func30, by kernel_rfl, by kernel_rfl, by kernel_rfl⟩
theorem fn31 : FnOk Try.prog 31 I31 := ⟨Try.call31, Try.func31, by kernel_rfl, by kernel_rfl, by kernel_rfl⟩
theorem fn32 : FnOk Try.prog 32 I32 := ⟨Try.call32, Try.func32, by kernel_rfl, by kernel_rfl, by kernel_rfl⟩
theorem fn37 : FnOk Try.prog 37 I37 := ⟨Try.call37, Try.func37, by kernel_rfl, by kernel_rfl, by kernel_rfl⟩
theorem fn38 : FnOk Try.prog 38 I38 := ⟨Try.call38, Try.func38, by kernel_rfl, by kernel_rfl, by kernel_rfl⟩
theorem fn43 : FnOk Try.prog 43 I43 := ⟨Try.call43, Try.func43, by kernel_rfl, by kernel_rfl, by kernel_rfl⟩
theorem fn44 : FnOk Try.prog 44 I44 := ⟨Try.call44, Try.func44, by kernel_rfl, by kernel_rfl, by kernel_rfl⟩
theorem fn51 : FnOk Try.prog 51 I51 := ⟨Try.call51, Try.func51, by kernel_rfl, by kernel_rfl, by kernel_rfl⟩
theorem fn52 : FnOk Try.prog 52 I52 := ⟨Try.call52, Try.func52, by kernel_rfl, by kernel_rfl, by kernel_rfl⟩
theorem fn53 : FnOk Try.prog 53 I53 := ⟨Try.call53, Try.func53, by kernel_rfl, by kernel_rfl, by kernel_rfl⟩
theorem fn54 : FnOk Try.prog 54 I54 := ⟨Try.call54, Try.func54, by kernel_rfl, by kernel_rfl, by kernel_rfl⟩
theorem fn55 : FnOk Try.prog 55 I55 := ⟨Try.call55, Try.func55, by kernel_rfl, by kernel_rfl, by kernel_rfl⟩
theorem fn56 : FnOk Try.prog 56 I56 := ⟨Try.call56, Try.func56, by kernel_rfl, by kernel_rfl, by kernel_rfl⟩
theorem fn57 : FnOk Try.prog 57 I57 := ⟨Try.call57, Try.func57, by kernel_rfl, by kernel_rfl, by kernel_rfl⟩
theorem fn58 : FnOk Try.prog 58 I58 := ⟨Try.call58, Try.func58, by kernel_rfl, by kernel_rfl, by kernel_rfl⟩
theorem fn59 : FnOk Try.prog 59 I59 := ⟨Try.call59, Try.func59, by kernel_rfl, by kernel_rfl, by kernel_rfl⟩
theorem fn60 : FnOk Try.prog 60 I60 := ⟨Try.call60, Try.func60, by kernel_rfl, by kernel_rfl, by kernel_rfl⟩
theorem fn61 : FnOk Try.prog 61 I61 := ⟨Try.call61, Try.func61, by kernel_rfl, by kernel_rfl, by kernel_rfl⟩
theorem fn62 : FnOk Try.prog 62 I62 := ⟨Try.call62, Try.func62, by kernel_rfl, by kernel_rfl, by kernel_rfl⟩
theorem fn63 : FnOk Try.prog 63 I63 := ⟨Try.call63, Try.func63, by kernel_rfl, by kernel_rfl, by kernel_rfl⟩
theorem fn64 : FnOk Try.prog 64 I64 := ⟨Try.call64, Try.func64, by kernel_rfl, by kernel_rfl, by kernel_rfl⟩
theorem fn65 : FnOk Try.prog 65 I65 := ⟨Try.call65, Try.func65, by kernel_rfl, by kernel_rfl, by kernel_rfl⟩
theorem fn66 : FnOk Try.prog 66 I66 := ⟨Try.call66, Try.func66, by kernel_rfl, by kernel_rfl, by kernel_rfl⟩
theorem fn67 : FnOk Try.prog 67 I67 := ⟨Try.call67, Try.func67, by kernel_rfl, by kernel_rfl, by kernel_rfl⟩
theorem fn68 : FnOk Try.prog 68 I68 := ⟨Try.call68, Try.func68, by kernel_rfl, by kernel_rfl, by kernel_rfl⟩
theorem fn69 : FnOk Try.prog 69 I69 := ⟨Try.call69, Try.func69, by kernel_rfl, by kernel_rfl, by kernel_rfl⟩
theorem fn70 : FnOk Try.prog 70 I70 := ⟨Try.call70, Try.func70, by kernel_rfl, by kernel_rfl, by kernel_rfl⟩
theorem fn71 : FnOk Try.prog 71 I71 := ⟨Try.call71, Try.func71, by kernel_rfl, by kernel_rfl, by kernel_rfl⟩
theorem fn72 : FnOk Try.prog 72 I72 := ⟨Try.call72, Try.func72, by kernel_rfl, by kernel_rfl, by kernel_rfl⟩
theorem fn73 : FnOk Try.prog 73 I73 := ⟨Try.call73, Try.func73, by kernel_rfl, by kernel_rfl, by kernel_rfl⟩
theorem fn74 : FnOk Try.prog 74 I74 := ⟨Try.call74, Try.func74, by kernel_rfl, by kernel_rfl, by kernel_rfl⟩
theorem fn75 : FnOk Try.prog 75 I75 := ⟨Try.call75, Try.func75, by kernel_rfl, by kernel_rfl, by kernel_rfl⟩
theorem fn76 : FnOk Try.prog 76 I76 := ⟨Try.call76, Try.func76, by kernel_rfl, by kernel_rfl, by kernel_rfl⟩
theorem fn81 : FnOk Try.prog 81 I81 := ⟨Try.call81, Try.func81, by kernel_rfl, by kernel_rfl, by kernel_rfl⟩
theorem fn86 : FnOk Try.prog 86 I86 := ⟨Try.call86, Try.func86, by kernel_rfl, by kernel_rfl, by kernel_rfl⟩
theorem fn89 : FnOk Try.prog 89 I89 := ⟨Try.call89, Try.func89, by kernel_rfl, by kernel_rfl, by kernel_rfl⟩
theorem fn90 : FnOk Try.prog 90 I90 := ⟨Try.call90, Try.func90, by kernel_rfl, by kernel_rfl, by kernel_rfl⟩
theorem fn91 : FnOk Try.prog 91 I91 := ⟨Try.call91, Try.func91, by kernel_rfl, by kernel_rfl, by kernel_rfl⟩
theorem fn92 : FnOk Try.prog 92 I92 := ⟨Try.call92, Try.func92, by kernel_rfl, by kernel_rfl, by kernel_rfl⟩
theorem fn93 : FnOk Try.prog 93 I93 := ⟨Try.call93, Try.func93, by kernel_rfl, by kernel_rfl, by kernel_rfl⟩
theorem fn94 : FnOk Try.prog 94 I94 := ⟨Try.call94, Try.func94, by kernel_rfl, by kernel_rfl, by kernel_rfl⟩
theorem fn95 : FnOk Try.prog 95 I95 := ⟨Try.call95, Try.func95, by kernel_rfl, by kernel_rfl, by kernel_rfl⟩
theorem fn96 : FnOk Try.prog 96 I96 := ⟨Try.call96, Try.func96, by kernel_rfl, by kernel_rfl, by kernel_rfl⟩
theorem fn97 : FnOk Try.prog 97 I97 := ⟨Try.call97, Try.func97, by kernel_rfl, by kernel_rfl, by kernel_rfl⟩
theorem fn98 : FnOk Try.prog 98 I98 := ⟨Try.call98, Try.func98, by kernel_rfl, by kernel_rfl, by kernel_rfl⟩
theorem fn99 : FnOk Try.prog 99 I99 := ⟨Try.call99, Try.func99, by kernel_rfl, by kernel_rfl, by kernel_rfl⟩
theorem fn100 : FnOk Try.prog 100 I100 := ⟨Try.call100, Try.func100, by kernel_rfl, by kernel_rfl, by kernel_rfl⟩
theorem fn101 : FnOk Try.prog 101 I101 := ⟨Try.call101, Try.func101, by kernel_rfl, by kernel_rfl, by kernel_rfl⟩
theorem fn102 : FnOk Try.prog 102 I102 := ⟨Try.call102, Try.func102, by kernel_rfl, by kernel_rfl, by kernel_rfl⟩
theorem fn103 : FnOk Try.prog 103 I103 := ⟨Try.call103, Try.func103, by kernel_rfl, by kernel_rfl, by kernel_rfl⟩
theorem fn104 : FnOk Try.prog 104 I104 := ⟨Try.call104, Try.func104, by kernel_rfl, by kernel_rfl, by kernel_rfl⟩
theorem fn105 : FnOk Try.prog 105 I105 := ⟨Try.call105, Try.func105, by kernel_rfl, by kernel_rfl, by kernel_rfl⟩
theorem fn106 : FnOk Try.prog 106 I106 := ⟨Try.call106, Try.func106, by kernel_rfl, by kernel_rfl, by kernel_rfl⟩
theorem fn107 : FnOk Try.prog 107 I107 := ⟨Try.call107, Try.func107, by kernel_rfl, by kernel_rfl, by kernel_rfl⟩
theorem fn108 : FnOk Try.prog 108 I108 := ⟨Try.call108, Try.func108, by kernel_rfl, by kernel_rfl, by kernel_rfl⟩
theorem fn109 : FnOk Try.prog 109 I109 := ⟨Try.call109, Try.func109, by kernel_rfl, by kernel_rfl, by kernel_rfl⟩
theorem fn110 : FnOk Try.prog 110 I110 := ⟨Try.call110, Try.func110, by kernel_rfl, by kernel_rfl, by kernel_rfl⟩
theorem fn111 : FnOk Try.prog 111 I111 := ⟨Try.call111, Try.func111, by kernel_rfl, by kernel_rfl, by kernel_rfl⟩
theorem fn112 : FnOk Try.prog 112 I112 := ⟨Try.call112, Try.func112, by kernel_rfl, by kernel_rfl, by kernel_rfl⟩
theorem fn113 : FnOk Try.prog 113 I113 := ⟨Try.call113, Try.func113, by kernel_rfl, by kernel_rfl, by kernel_rfl⟩
theorem fn114 : FnOk Try.prog 114 I114 := ⟨Try.call114, Try.func114, by kernel_rfl, by kernel_rfl, by kernel_rfl⟩
theorem fn120 : FnOk Try.prog 120 I120 := ⟨Try.call120, Try.func120, by kernel_rfl, by kernel_rfl, by kernel_rfl⟩
theorem fn121 : FnOk Try.prog 121 I121 := ⟨Try.call121, Try.func121, by kernel_rfl, by kernel_rfl, by kernel_rfl⟩
theorem fn122 : FnOk Try.prog 122 I122 := ⟨Try.call122, Try.func122, by kernel_rfl, by kernel_rfl, by kernel_rfl⟩
theorem fn123 : FnOk Try.prog 123 I123 := ⟨Try.call123, Try.func123, by kernel_rfl, by kernel_rfl, by kernel_rfl⟩
theorem fn124 : FnOk Try.prog 124 I124 := ⟨Try.call124, Try.func124, by kernel_rfl, by kernel_rfl, by kernel_rfl⟩
theorem fn125 : FnOk Try.prog 125 I125 := ⟨Try.call125, Try.func125, by kernel_rfl, by kernel_rfl, by kernel_rfl⟩
theorem fn126 : FnOk Try.prog 126 I126 := ⟨Try.call126, Try.func126, by kernel_rfl, by kernel_rfl, by kernel_rfl⟩
theorem fn127 : FnOk Try.prog 127 I127 := ⟨Try.call127, Try.func127, by kernel_rfl, by kernel_rfl, by kernel_rfl⟩
theorem fn128 : FnOk Try.prog 128 I128 := ⟨Try.call128, Try.func128, by kernel_rfl, by kernel_rfl, by kernel_rfl⟩
theorem fn129 : FnOk Try.prog 129 I129 := ⟨Try.call129, Try.func129, by kernel_rfl, by kernel_rfl, by kernel_rfl⟩
theorem fn130 : FnOk Try.prog 130 I130 := ⟨Try.call130, Try.func130, by kernel_rfl, by kernel_rfl, by kernel_rfl⟩
theorem fn131 : FnOk Try.prog 131 I131 := ⟨Try.call131, Try.func131, by kernel_rfl, by kernel_rfl, by kernel_rfl⟩
theorem fn132 : FnOk Try.prog 132 I132 := ⟨Try.call132, Try.func132, by kernel_rfl, by kernel_rfl, by kernel_rfl⟩
theorem fn144 : FnOk Try.prog 144 I144 := ⟨Try.call144, Try.func144, by kernel_rfl, by kernel_rfl, by kernel_rfl⟩
theorem fn145 : FnOk Try.prog 145 I145 := ⟨Try.call145, Try.func145, by kernel_rfl, by kernel_rfl, by kernel_rfl⟩
theorem fn146 : FnOk Try.prog 146 I146 := ⟨Try.call146, Try.func146, by kernel_rfl, by kernel_rfl, by kernel_rfl⟩
theorem fn147 : FnOk Try.prog 147 I147 := ⟨Try.call147, Try.func147, by kernel_rfl, by kernel_rfl, by kernel_rfl⟩
theorem fn148 : FnOk Try.prog 148 I148 := ⟨Try.call148, Try.func148, by kernel_rfl, by kernel_rfl, by kernel_rfl⟩
theorem fn155 : FnOk Try.prog 155 I155 := ⟨Try.call155, Try.func155, by kernel_rfl, by kernel_rfl, by kernel_rfl⟩
theorem fn156 : FnOk Try.prog 156 I156 := ⟨Try.call156, Try.func156, by kernel_rfl, by kernel_rfl, by kernel_rfl⟩
theorem fn158 : FnOk Try.prog 158 I158 := ⟨Try.call158, Try.func158, by kernel_rfl, by kernel_rfl, by kernel_rfl⟩
theorem cxOk : CxOk Try.prog cx := cxOk_of ⟨ty26, ty22, ty89, ty87, ty37, ty39, ty3, ty23, ty93, ty91, ty166, ty36, ty5, ty24, ty4, ty32, ty29, ty106, ty104, ty46, ty48, ty30, ty97, ty95, ty102, ty43, ty40, ty41, ty123, ty52, ty49, ty50, ty129, ty78, ty116, ty125, ty133, ty135, ty142, ty100, ty156, ty158, ty1, ty20, ty9, ty170, ty145, ty175, ty183, ty185, ty187, ty189, ty195, ty8, ty2, ty6, ty10, ty11, ty14, ty12, ty15, ty200, ty17, ty212, ty205, ty206, ty207, ty208, ty209, ty210, ty16, ty19, trivial⟩ ⟨fn3, fn5, fn6, fn7, fn8, fn9, fn14, fn19, fn20, fn21, fn22, fn23, fn24, fn25, fn26, fn27, fn28, fn29, fn30, fn31, fn32, fn37, fn38, fn43, fn44, fn51, fn52, fn53, fn54, fn55, fn56, fn57, fn58, fn59, fn60, fn61, fn62, fn63, fn64, fn65, fn66, fn67, fn68, fn69, fn70, fn71, fn72, fn73, fn74, fn75, fn76, fn81, fn86, fn89, fn90, fn91, fn92, fn93, fn94, fn95, fn96, fn97, fn98, fn99, fn100, fn101, fn102, fn103, fn104, fn105, fn106, fn107, fn108, fn109, fn110, fn111, fn112, fn113, fn114, fn120, fn121, fn122, fn123, fn124, fn125, fn126, fn127, fn128, fn129, fn130, fn131, fn132, fn144, fn145, fn146, fn147, fn148, fn155, fn156, fn158, trivial⟩ (by kernel_rfl)
end Go.Ev.Q
