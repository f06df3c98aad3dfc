/- The equations of the functions that a law reaches, printed out of the translation by a program of this session; Lean checks each. -/
import Derived.Test.YtepljphcjpcpiaaEvDat
import Derived.KernelRfl
import Derived.Test.YtepljphcjpcpiaaProg
open Go Go.Ev Go.Proofs
set_option maxRecDepth 100000
set_option linter.unusedVariables false
namespace Go.Ev.Q
noncomputable def tyL : List (Nat × TI) := [(29, ⟨13, 184, true, (.st [(0, 3), (1, 3), (2, 3), (3, 3), (4, 22), (5, 25), (8, 25), (11, 26), (12, 27)]), [.d (.int .i64 0), .d (.int .i64 0), .d (.int .i64 0), .d (.int .i64 0), .d (.sl true 1 0 []), .d (.int .i64 0), .d (.int .i64 0), .d (.sl true 3 0 []), .d (.int .i64 0), .d (.int .i64 0), .d (.sl true 3 0 []), .d (.sl true 13 0 []), .d (.sl true 15 0 [])], [.int .i64, .int .i64, .int .i64, .int .i64, .sl 1, .int .i64, .int .i64, .sl 3, .int .i64, .int .i64, .sl 3, .sl 13, .sl 15]⟩),
  (3, ⟨1, 8, false, (.int .i64), [.d (.int .i64 0)], [.int .i64]⟩),
  (22, ⟨1, 24, false, (.sl 5), [.d (.sl true 1 0 [])], [.sl 1]⟩),
  (5, ⟨1, 1, false, (.int .u8), [.d (.int .u8 0)], [.int .u8]⟩),
  (25, ⟨3, 40, true, (.st [(0, 3), (1, 3), (2, 23)]), [.d (.int .i64 0), .d (.int .i64 0), .d (.sl true 3 0 [])], [.int .i64, .int .i64, .sl 3]⟩),
  (23, ⟨1, 24, false, (.sl 25), [.d (.sl true 3 0 [])], [.sl 3]⟩),
  (26, ⟨1, 24, false, (.sl 29), [.d (.sl true 13 0 [])], [.sl 13]⟩),
  (27, ⟨1, 24, false, (.sl 165), [.d (.sl true 15 0 [])], [.sl 15]⟩),
  (165, ⟨15, 216, true, (.st [(0, 3), (1, 42), (2, 29)]), [.d (.int .i64 0), .d (.sl true 1 0 []), .d (.int .i64 0), .d (.int .i64 0), .d (.int .i64 0), .d (.int .i64 0), .d (.sl true 1 0 []), .d (.int .i64 0), .d (.int .i64 0), .d (.sl true 3 0 []), .d (.int .i64 0), .d (.int .i64 0), .d (.sl true 3 0 []), .d (.sl true 13 0 []), .d (.sl true 15 0 [])], [.int .i64, .sl 1, .int .i64, .int .i64, .int .i64, .int .i64, .sl 1, .int .i64, .int .i64, .sl 3, .int .i64, .int .i64, .sl 3, .sl 13, .sl 15]⟩),
  (42, ⟨1, 24, false, (.sl 3), [.d (.sl true 1 0 [])], [.sl 1]⟩),
  (4, ⟨1, 1, false, .bool, [.d (.bool false)], [.bool]⟩),
  (38, ⟨13, 184, true, (.st [(0, 3), (1, 3), (2, 3), (3, 3), (4, 22), (5, 34), (8, 34), (11, 35), (12, 36)]), [.d (.int .i64 0), .d (.int .i64 0), .d (.int .i64 0), .d (.int .i64 0), .d (.sl true 1 0 []), .d (.int .i64 0), .d (.int .i64 0), .d (.sl true 3 0 []), .d (.int .i64 0), .d (.int .i64 0), .d (.sl true 3 0 []), .d (.sl true 13 0 []), .d (.sl true 15 0 [])], [.int .i64, .int .i64, .int .i64, .int .i64, .sl 1, .int .i64, .int .i64, .sl 3, .int .i64, .int .i64, .sl 3, .sl 13, .sl 15]⟩),
  (34, ⟨3, 40, true, (.st [(0, 3), (1, 3), (2, 32)]), [.d (.int .i64 0), .d (.int .i64 0), .d (.sl true 3 0 [])], [.int .i64, .int .i64, .sl 3]⟩),
  (32, ⟨1, 24, false, (.sl 34), [.d (.sl true 3 0 [])], [.sl 3]⟩),
  (35, ⟨1, 24, false, (.sl 38), [.d (.sl true 13 0 [])], [.sl 13]⟩),
  (36, ⟨1, 24, false, (.sl 169), [.d (.sl true 15 0 [])], [.sl 15]⟩),
  (169, ⟨15, 216, true, (.st [(0, 3), (1, 42), (2, 38)]), [.d (.int .i64 0), .d (.sl true 1 0 []), .d (.int .i64 0), .d (.int .i64 0), .d (.int .i64 0), .d (.int .i64 0), .d (.sl true 1 0 []), .d (.int .i64 0), .d (.int .i64 0), .d (.sl true 3 0 []), .d (.int .i64 0), .d (.int .i64 0), .d (.sl true 3 0 []), .d (.sl true 13 0 []), .d (.sl true 15 0 [])], [.int .i64, .sl 1, .int .i64, .int .i64, .int .i64, .int .i64, .sl 1, .int .i64, .int .i64, .sl 3, .int .i64, .int .i64, .sl 3, .sl 13, .sl 15]⟩),
  (45, ⟨5, 72, true, (.st [(0, 42), (1, 3), (2, 3), (3, 3), (4, 43)]), [.d (.sl true 1 0 []), .d (.int .i64 0), .d (.int .i64 0), .d (.int .i64 0), .d (.sl true 3 0 [])], [.sl 1, .int .i64, .int .i64, .int .i64, .sl 3]⟩),
  (43, ⟨1, 24, false, (.sl 175), [.d (.sl true 3 0 [])], [.sl 3]⟩),
  (175, ⟨3, 24, true, (.st [(0, 3), (1, 3), (2, 3)]), [.d (.int .i64 0), .d (.int .i64 0), .d (.int .i64 0)], [.int .i64, .int .i64, .int .i64]⟩),
  (49, ⟨5, 72, true, (.st [(0, 42), (1, 3), (2, 3), (3, 3), (4, 47)]), [.d (.sl true 1 0 []), .d (.int .i64 0), .d (.int .i64 0), .d (.int .i64 0), .d (.sl true 3 0 [])], [.sl 1, .int .i64, .int .i64, .int .i64, .sl 3]⟩),
  (47, ⟨1, 24, false, (.sl 173), [.d (.sl true 3 0 [])], [.sl 3]⟩),
  (173, ⟨3, 24, true, (.st [(0, 3), (1, 3), (2, 3)]), [.d (.int .i64 0), .d (.int .i64 0), .d (.int .i64 0)], [.int .i64, .int .i64, .int .i64]⟩),
  (78, ⟨1, 24, false, (.sl 139), [.d (.sl true 4 0 [])], [.sl 4]⟩),
  (139, ⟨4, 48, true, (.st [(0, 3), (1, 25)]), [.d (.int .i64 0), .d (.int .i64 0), .d (.int .i64 0), .d (.sl true 3 0 [])], [.int .i64, .int .i64, .int .i64, .sl 3]⟩),
  (81, ⟨1, 24, false, (.sl 99), [.d (.sl true 4 0 [])], [.sl 4]⟩),
  (99, ⟨4, 48, true, (.st [(0, 3), (1, 34)]), [.d (.int .i64 0), .d (.int .i64 0), .d (.int .i64 0), .d (.sl true 3 0 [])], [.int .i64, .int .i64, .int .i64, .sl 3]⟩),
  (106, ⟨1, 8, false, .other, [.undef], [.undef]⟩),
  (115, ⟨1, 8, false, .other, [.undef], [.undef]⟩),
  (126, ⟨1, 8, false, .other, [.undef], [.undef]⟩),
  (182, ⟨3, 40, true, (.st [(0, 22), (1, 3), (2, 3)]), [.d (.sl true 1 0 []), .d (.int .i64 0), .d (.int .i64 0)], [.sl 1, .int .i64, .int .i64]⟩),
  (135, ⟨1, 8, false, .other, [.undef], [.undef]⟩),
  (143, ⟨1, 8, false, .other, [.undef], [.undef]⟩),
  (150, ⟨2, 32, true, (.st [(0, 81), (1, 148)]), [.d (.sl true 4 0 []), .undef], [.sl 4, .undef]⟩),
  (148, ⟨1, 8, false, .other, [.undef], [.undef]⟩),
  (156, ⟨1, 8, false, .other, [.undef], [.undef]⟩),
  (162, ⟨1, 8, false, .other, [.undef], [.undef]⟩),
  (167, ⟨1, 8, false, .other, [.undef], [.undef]⟩),
  (91, ⟨1, 8, false, .other, [.undef], [.undef]⟩),
  (193, ⟨1, 8, false, (.int .u64), [.d (.int .u64 0)], [.int .u64]⟩),
  (198, ⟨1, 8, false, (.int .i64), [.d (.int .i64 0)], [.int .i64]⟩),
  (205, ⟨1, 4, false, (.int .u32), [.d (.int .u32 0)], [.int .u32]⟩),
  (207, ⟨1, 8, false, (.int .u64), [.d (.int .u64 0)], [.int .u64]⟩),
  (208, ⟨1, 8, false, (.int .u64), [.d (.int .u64 0)], [.int .u64]⟩),
  (9, ⟨1, 16, false, .str, [.d (.str ⟨#[]⟩)], [.str]⟩),
  (213, ⟨1, 8, false, .other, [.undef], [.undef]⟩),
  (8, ⟨4, 24, true, (.st [(0, 2), (1, 3), (2, 4), (3, 6)]), [.d (.int .i64 0), .d (.int .i64 0), .d (.bool false), .d (.int .u8 0)], [.int .i64, .int .i64, .bool, .int .u8]⟩),
  (2, ⟨1, 8, false, (.int .i64), [.d (.int .i64 0)], [.int .i64]⟩),
  (6, ⟨1, 1, false, (.int .u8), [.d (.int .u8 0)], [.int .u8]⟩),
  (10, ⟨1, 16, false, .str, [.d (.str ⟨#[]⟩)], [.str]⟩),
  (11, ⟨1, 16, false, .str, [.d (.str ⟨#[]⟩)], [.str]⟩),
  (14, ⟨2, 24, true, (.st [(0, 9), (1, 12)]), [.d (.str ⟨#[]⟩), .d (.int .u64 0)], [.str, .int .u64]⟩),
  (12, ⟨1, 8, false, (.int .u64), [.d (.int .u64 0)], [.int .u64]⟩),
  (15, ⟨1, 8, false, .other, [.undef], [.undef]⟩),
  (218, ⟨4, 40, true, (.st [(0, 17), (1, 17), (2, 17), (3, 9)]), [.undef, .undef, .undef, .d (.str ⟨#[]⟩)], [.undef, .undef, .undef, .str]⟩),
  (17, ⟨1, 8, false, .other, [.undef], [.undef]⟩),
  (229, ⟨11, 48, true, (.st [(0, 12), (1, 12), (2, 205), (3, 222), (4, 5), (5, 5), (6, 223), (7, 224), (8, 225), (9, 226), (10, 227)]), [.d (.int .u64 0), .d (.int .u64 0), .d (.int .u32 0), .d (.int .u8 0), .d (.int .u8 0), .d (.int .u8 0), .d (.int .u8 0), .undef, .undef, .d (.int .i32 0), .d (.int .i32 0)], [.int .u64, .int .u64, .int .u32, .int .u8, .int .u8, .int .u8, .int .u8, .undef, .undef, .int .i32, .int .i32]⟩),
  (222, ⟨1, 1, false, (.int .u8), [.d (.int .u8 0)], [.int .u8]⟩),
  (223, ⟨1, 1, false, (.int .u8), [.d (.int .u8 0)], [.int .u8]⟩),
  (224, ⟨1, 8, false, .other, [.undef], [.undef]⟩),
  (225, ⟨1, 8, false, .other, [.undef], [.undef]⟩),
  (226, ⟨1, 4, false, (.int .i32), [.d (.int .i32 0)], [.int .i32]⟩),
  (227, ⟨1, 4, false, (.int .i32), [.d (.int .i32 0)], [.int .i32]⟩),
  (16, ⟨1, 8, false, .other, [.undef], [.undef]⟩),
  (19, ⟨1, 8, true, (.st [(0, 17)]), [.undef], [.undef]⟩),
  (232, ⟨1, 8, false, .other, [.undef], [.undef]⟩)]
def ann3 : Ann := (.s .o (.s .o (.s .o (.s (.s .o (.s (.s .o .o) .o)) (.s .o (.s .o (.s .o (.s (.s .o (.s (.s .o .o) .o)) (.s (.s (.r 5) (.s (.s .o .o) .o)) (.s .o .o))))))))))
def ann14 : Ann := (.s .o (.s .o (.s (.s .o (.s (.s .o .o) .o)) (.s .o (.s (.s .o (.s (.s .o .o) .o)) (.s .o (.s (.s .o (.s (.s .o .o) .o)) (.s .o (.s (.s .o (.s (.s .o .o) .o)) (.s .o (.s (.s .o (.s (.s .o .o) .o)) (.s .o .o))))))))))))
def ann15 : Ann := (.s .o (.s .o .o))
def ann16 : Ann := (.s .o (.s .o (.s .o (.s .o (.s .o (.s .o (.s .o (.s .o (.s .o (.s .o (.s .o (.s .o .o))))))))))))
def ann17 : Ann := (.s .o (.s .o .o))
def ann18 : Ann := (.s .o (.s (.s .o (.s (.s .o .o) .o)) (.s (.s .o (.s (.s .o .o) .o)) (.s (.s .o (.s (.s .o .o) .o)) (.s (.s .o (.s (.s .o .o) .o)) (.s (.s .o (.s (.s .o .o) .o)) (.s (.s .o (.s (.s .o .o) .o)) (.s (.s .o (.s (.s .o .o) .o)) (.s (.s .o (.s (.s .o .o) .o)) (.s (.s .o (.s (.s .o .o) .o)) (.s .o .o)))))))))))
def ann36 : Ann := (.s .o (.s .o (.s (.s .o (.s (.s .o .o) .o)) (.s .o .o))))
def ann37 : Ann := (.s .o (.s .o (.s (.s .o (.s (.s .o .o) .o)) (.s (.s .o (.b (.l ⟨1, [], [], [5, 1, 0], []⟩ (.s (.s .o (.s .o .o)) (.s (.b (.s .o (.s .o (.s (.s .o .o) .o)))) .o))))) (.s .o .o)))))
def ann39 : Ann := (.s .o (.s .o (.s .o (.s .o (.s .o (.s .o .o))))))
def ann40 : Ann := (.s .o (.s .o (.s (.s .o (.b (.l ⟨1, [], [], [4, 0, 3], []⟩ (.s (.s .o (.s .o .o)) (.s (.b .o) .o))))) (.s .o .o))))
def ann42 : Ann := (.s .o (.s (.s .o (.s (.s .o .o) .o)) (.s (.s .o (.s (.s .o .o) .o)) (.s (.s .o (.s (.s .o .o) .o)) (.s .o .o)))))
def ann43 : Ann := (.s .o (.s (.s .o (.s (.s .o .o) .o)) (.s (.s .o (.b (.l ⟨1, [], [], [5, 1, 0], []⟩ (.s (.s .o (.s .o .o)) (.s (.b (.s (.r 10) (.s (.s .o .o) .o))) .o))))) (.s .o .o))))
def ann66 : Ann := (.s .o (.s .o (.s (.s .o (.s (.s .o .o) .o)) (.s .o .o))))
def ann67 : Ann := (.s .o (.s .o (.s (.s .o (.s (.s .o .o) .o)) (.s (.s .o (.b (.l ⟨1, [], [], [5, 1, 0], []⟩ (.s (.s .o (.s .o .o)) (.s (.b (.s .o (.s .o (.s (.s .o .o) .o)))) .o))))) (.s .o .o)))))
def ann68 : Ann := (.s .o (.s .o (.s (.s .o (.s (.s .o .o) .o)) (.s (.s .o (.b (.l ⟨1, [], [], [5, 1, 0], []⟩ (.s (.s .o (.s .o .o)) (.s (.b (.s .o (.s .o (.s (.s .o .o) .o)))) .o))))) (.s .o .o)))))
def ann69 : Ann := (.s .o (.s .o (.s .o (.s .o .o))))
def ann70 : Ann := (.s .o (.s .o (.s (.s .o (.b (.l ⟨1, [], [], [4, 0, 3], []⟩ (.s (.s .o (.s .o .o)) (.s (.b .o) .o))))) (.s .o .o))))
def ann71 : Ann := (.s .o (.s .o (.s (.s .o (.b (.l ⟨1, [], [], [4, 0, 3], []⟩ (.s (.s .o (.s .o .o)) (.s (.b .o) .o))))) (.s .o .o))))
def ann72 : Ann := (.s .o (.s .o (.s (.s .o (.b (.l ⟨1, [], [], [4, 0, 3], []⟩ (.s (.s .o (.s .o .o)) (.s (.b .o) .o))))) (.s .o .o))))
def ann73 : Ann := (.s .o (.s .o (.s (.s .o (.b (.l ⟨1, [], [], [1, 13, 5, 0, 12], []⟩ (.s .o (.s (.s .o .o) (.s (.b (.s .o (.s (.s .o (.s (.s .o .o) .o)) .o))) .o)))))) (.s (.s .o (.b (.l ⟨2, [], [], [1, 39, 5, 0, 38], []⟩ (.s .o (.s (.s .o .o) (.s (.b (.s .o (.s (.s .o (.s (.s .o .o) .o)) .o))) .o)))))) (.s .o .o)))))
def ann74 : Ann := (.s .o (.s (.s .o (.s (.s .o .o) .o)) (.s (.s .o (.b (.l ⟨1, [], [], [5, 1, 0], []⟩ (.s (.s .o (.s .o .o)) (.s (.b (.s (.r 9) (.s (.s .o .o) .o))) .o))))) (.s .o .o))))
def ann75 : Ann := (.s .o (.s (.s .o (.s (.s .o .o) .o)) (.s (.s .o (.b (.l ⟨1, [], [], [5, 1, 0], []⟩ (.s (.s .o (.s .o .o)) (.s (.b (.s (.r 10) (.s (.s .o .o) .o))) .o))))) (.s .o .o))))
def ann76 : Ann := (.s .o (.s (.s .o (.s (.s .o .o) .o)) (.s (.s .o (.b (.l ⟨1, [], [], [5, 1, 0], []⟩ (.s (.s .o (.s .o .o)) (.s (.b (.s (.r 10) (.s (.s .o .o) .o))) .o))))) (.s .o .o))))
def ann77 : Ann := (.s .o (.s .o (.s (.s .o (.s (.s .o .o) .o)) (.s .o .o))))
def ann81 : Ann := (.s .o (.s .o (.s (.s .o (.b (.l ⟨1, [], [], [4, 0, 3], []⟩ (.s (.s .o (.s .o .o)) (.s (.b .o) .o))))) (.s .o .o))))
def ann85 : Ann := (.s .o (.s (.s .o (.s (.s .o .o) .o)) (.s (.s .o (.b (.l ⟨1, [], [], [5, 1, 0], []⟩ (.s (.s .o (.s .o .o)) (.s (.b (.s (.r 9) (.s (.s .o .o) .o))) .o))))) (.s .o .o))))
def ann132 : Ann := (.s .o (.s .o (.s (.s .o (.s (.s .o .o) .o)) (.s .o (.s (.s .o (.s (.s .o .o) .o)) (.s .o .o))))))
def ann133 : Ann := (.s .o (.s (.s .o (.s .o .o)) (.s .o (.s (.s .o (.b (.l ⟨1, [], [], [4, 1, 2], []⟩ (.s (.s .o (.s .o .o)) (.s (.b .o) .o))))) (.s .o (.b (.l ⟨2, [], [], [5, 1, 2], []⟩ (.s (.s .o (.s .o .o)) (.s (.b .o) .o)))))))))
def ann134 : Ann := (.s .o (.s .o (.s .o (.s .o (.s .o (.s .o .o))))))
def ann135 : Ann := (.s .o (.s (.s .o (.s (.s .o .o) .o)) (.s (.s .o (.s (.s .o .o) .o)) (.s (.s .o (.s (.s .o .o) .o)) (.s .o .o)))))
noncomputable def I3 : FnI := ⟨Try.f3, Try.f3.body.getD .skip, [false], [], false, [], .m (.one (.bool)), [], [], ann3⟩
noncomputable def I14 : FnI := ⟨Try.f14, Try.f14.body.getD .skip, [false, false], [], false, [], .m (.one (.int .i64)), [], [], ann14⟩
noncomputable def I15 : FnI := ⟨Try.f15, Try.f15.body.getD .skip, [false], [], false, [], .m (.one (.int .i64)), [], [], ann15⟩
noncomputable def I16 : FnI := ⟨Try.f16, Try.f16.body.getD .skip, [false], [], false, [], .m (.agg [.int .i64, .int .i64, .int .i64, .int .i64, .sl 1, .int .i64, .int .i64, .sl 3, .int .i64, .int .i64, .sl 3, .sl 13, .sl 15]), [], [], ann16⟩
noncomputable def I17 : FnI := ⟨Try.f17, Try.f17.body.getD .skip, [false], [], false, [], .m (.one (.int .i64)), [], [], ann17⟩
noncomputable def I18 : FnI := ⟨Try.f18, Try.f18.body.getD .skip, [false, false], [], false, [], .m (.one (.bool)), [], [], ann18⟩
noncomputable def I36 : FnI := ⟨Try.f36, Try.f36.body.getD .skip, [false, false], [], false, [], .m (.one (.int .i64)), [], [], ann36⟩
noncomputable def I37 : FnI := ⟨Try.f37, Try.f37.body.getD .skip, [false, false], [], false, [], .m (.one (.int .i64)), [], [], ann37⟩
noncomputable def I39 : FnI := ⟨Try.f39, Try.f39.body.getD .skip, [false], [], false, [], .m (.agg [.int .i64, .int .i64, .sl 3]), [], [], ann39⟩
noncomputable def I40 : FnI := ⟨Try.f40, Try.f40.body.getD .skip, [false], [], false, [], .m (.one (.sl 3)), [], [], ann40⟩
noncomputable def I42 : FnI := ⟨Try.f42, Try.f42.body.getD .skip, [false, false], [], false, [], .m (.one (.bool)), [], [], ann42⟩
noncomputable def I43 : FnI := ⟨Try.f43, Try.f43.body.getD .skip, [false, false], [], false, [], .m (.one (.bool)), [], [], ann43⟩
noncomputable def I66 : FnI := ⟨Try.f66, Try.f66.body.getD .skip, [false, false], [], false, [], .m (.one (.int .i64)), [], [], ann66⟩
noncomputable def I67 : FnI := ⟨Try.f67, Try.f67.body.getD .skip, [false, false], [], false, [], .m (.one (.int .i64)), [], [], ann67⟩
noncomputable def I68 : FnI := ⟨Try.f68, Try.f68.body.getD .skip, [false, false], [], false, [], .m (.one (.int .i64)), [], [], ann68⟩
noncomputable def I69 : FnI := ⟨Try.f69, Try.f69.body.getD .skip, [false], [], false, [], .m (.one (.int .i64)), [], [], ann69⟩
noncomputable def I70 : FnI := ⟨Try.f70, Try.f70.body.getD .skip, [false], [], false, [], .m (.one (.sl 1)), [], [], ann70⟩
noncomputable def I71 : FnI := ⟨Try.f71, Try.f71.body.getD .skip, [false], [], false, [], .m (.one (.sl 13)), [], [], ann71⟩
noncomputable def I72 : FnI := ⟨Try.f72, Try.f72.body.getD .skip, [false], [], false, [], .m (.one (.sl 15)), [], [], ann72⟩
noncomputable def I73 : FnI := ⟨Try.f73, Try.f73.body.getD .skip, [true, false], [], false, [], .m (.one (.int .i64)), [], [], ann73⟩
noncomputable def I74 : FnI := ⟨Try.f74, Try.f74.body.getD .skip, [false, false], [], false, [], .m (.one (.bool)), [], [], ann74⟩
noncomputable def I75 : FnI := ⟨Try.f75, Try.f75.body.getD .skip, [false, false], [], false, [], .m (.one (.bool)), [], [], ann75⟩
noncomputable def I76 : FnI := ⟨Try.f76, Try.f76.body.getD .skip, [false, false], [], false, [], .m (.one (.bool)), [], [], ann76⟩
noncomputable def I77 : FnI := ⟨Try.f77, Try.f77.body.getD .skip, [false, false], [], false, [], .m (.one (.int .i64)), [], [], ann77⟩
noncomputable def I81 : FnI := ⟨Try.f81, Try.f81.body.getD .skip, [false], [], false, [], .m (.one (.sl 1)), [], [], ann81⟩
noncomputable def I85 : FnI := ⟨Try.f85, Try.f85.body.getD .skip, [false, false], [], false, [], .m (.one (.bool)), [], [], ann85⟩
noncomputable def I132 : FnI := ⟨Try.f132, Try.f132.body.getD .skip, [false, false], [], false, [], .m (.one (.int .i64)), [], [], ann132⟩
noncomputable def I133 : FnI := ⟨Try.f133, Try.f133.body.getD .skip, [false, true], [], false, [], .tup [], [], [], ann133⟩
noncomputable def I134 : FnI := ⟨Try.f134, Try.f134.body.getD .skip, [false], [], false, [], .m (.agg [.int .i64, .sl 1, .int .i64, .int .i64, .int .i64, .int .i64, .sl 1, .int .i64, .int .i64, .sl 3, .int .i64, .int .i64, .sl 3, .sl 13, .sl 15]), [], [], ann134⟩
noncomputable def I135 : FnI := ⟨Try.f135, Try.f135.body.getD .skip, [false, false], [], false, [], .m (.one (.bool)), [], [], ann135⟩
noncomputable def fnsL : List (Nat × FnI) := [(3, I3), (14, I14), (15, I15), (16, I16), (17, I17), (18, I18), (36, I36), (37, I37), (39, I39), (40, I40), (42, I42), (43, I43), (66, I66), (67, I67), (68, I68), (69, I69), (70, I70), (71, I71), (72, I72), (73, I73), (74, I74), (75, I75), (76, I76), (77, I77), (81, I81), (85, I85), (132, I132), (133, I133), (134, I134), (135, I135)]
noncomputable def cx : Cx := ⟨tyL, fnsL⟩
noncomputable def laws_FnExactLowNodes (x0 : T_Low) : Res := evF cx 3 [(.agg (LS.encs sh_Low x0))] []
noncomputable def laws_szLow (x0 : T_Low) (x1 : Int) : Res := evF cx 14 [(.agg (LS.encs sh_Low x0)), (.d (.int .i64 x1))] []
noncomputable def laws_toLow (x0 : T_Low) : Res := evF cx 16 [(.agg (LS.encs sh_Low x0))] []
noncomputable def spec_LowNodes (x0 : T_Low) : Res := evF cx 15 [(.agg (LS.encs sh_Low x0))] []
noncomputable def impl_LowNodes (x0 : T_Low) : Res := evF cx 17 [(.agg (LS.encs sh_Low x0))] []
noncomputable def laws_eqLow (x0 : T_Low) (x1 : T_Low) : Res := evF cx 18 [(.agg (LS.encs sh_Low x0)), (.agg (LS.encs sh_Low x1))] []
noncomputable def laws_szByteS (x0 : Sl) (x1 : Int) : Res := evF cx 66 [(.d (.sl false 1 x0.1 x0.2)), (.d (.int .i64 x1))] []
noncomputable def laws_szTy (x0 : T_Ty) (x1 : Int) : Res := evF cx 36 [(.agg (LS.encs sh_Ty x0)), (.d (.int .i64 x1))] []
noncomputable def laws_szLowS (x0 : Sl) (x1 : Int) : Res := evF cx 67 [(.d (.sl false 13 x0.1 x0.2)), (.d (.int .i64 x1))] []
noncomputable def laws_szLowAltS (x0 : Sl) (x1 : Int) : Res := evF cx 68 [(.d (.sl false 15 x0.1 x0.2)), (.d (.int .i64 x1))] []
noncomputable def laws_toByteS (x0 : Sl) : Res := evF cx 70 [(.d (.sl false 1 x0.1 x0.2))] []
noncomputable def laws_toTy (x0 : T_Ty) : Res := evF cx 39 [(.agg (LS.encs sh_Ty x0))] []
noncomputable def laws_toLowS (x0 : Sl) : Res := evF cx 71 [(.d (.sl false 13 x0.1 x0.2))] []
noncomputable def laws_toLowAltS (x0 : Sl) : Res := evF cx 72 [(.d (.sl false 15 x0.1 x0.2))] []
noncomputable def spec_l7count (x0 : T_Low) : Res := evF cx 69 [(.agg (LS.encs sh_Low x0))] []
noncomputable def impl_countLow (x0 : Int) (x1 : T_Low) : Res := evF cx 73 [(.ptr 0 0), (.d (.int .i64 x0))] [(.box (LS.encs sh_Low x1))]
noncomputable def laws_eqByteS (x0 : Sl) (x1 : Sl) : Res := evF cx 74 [(.d (.sl false 1 x0.1 x0.2)), (.d (.sl false 1 x1.1 x1.2))] []
noncomputable def laws_eqTy (x0 : T_Ty) (x1 : T_Ty) : Res := evF cx 42 [(.agg (LS.encs sh_Ty x0)), (.agg (LS.encs sh_Ty x1))] []
noncomputable def laws_eqLowS (x0 : Sl) (x1 : Sl) : Res := evF cx 75 [(.d (.sl false 13 x0.1 x0.2)), (.d (.sl false 13 x1.1 x1.2))] []
noncomputable def laws_eqLowAltS (x0 : Sl) (x1 : Sl) : Res := evF cx 76 [(.d (.sl false 15 x0.1 x0.2)), (.d (.sl false 15 x1.1 x1.2))] []
noncomputable def laws_szTyS (x0 : Sl) (x1 : Int) : Res := evF cx 37 [(.d (.sl false 3 x0.1 x0.2)), (.d (.int .i64 x1))] []
noncomputable def laws_szLowAlt (x0 : T_LowAlt) (x1 : Int) : Res := evF cx 132 [(.agg (LS.encs sh_LowAlt x0)), (.d (.int .i64 x1))] []
noncomputable def laws_toTyS (x0 : Sl) : Res := evF cx 40 [(.d (.sl false 3 x0.1 x0.2))] []
noncomputable def laws_toLowAlt (x0 : T_LowAlt) : Res := evF cx 134 [(.agg (LS.encs sh_LowAlt x0))] []
noncomputable def spec_l7parts (x0 : T_Low) (x1 : Int) : Res := evF cx 133 [(.agg (LS.encs sh_Low x0)), (.ptr 0 0)] [(.box [(.d (.int .i64 x1))])]
noncomputable def impl_countLow_r (x0 : T_Low) (x1 : Int) : Res := evF cx 73 [(.rp (vDs (LS.encs sh_Low x0)) 0), (.d (.int .i64 x1))] []
noncomputable def laws_eqTyS (x0 : Sl) (x1 : Sl) : Res := evF cx 43 [(.d (.sl false 3 x0.1 x0.2)), (.d (.sl false 3 x1.1 x1.2))] []
noncomputable def laws_eqLowAlt (x0 : T_LowAlt) (x1 : T_LowAlt) : Res := evF cx 135 [(.agg (LS.encs sh_LowAlt x0)), (.agg (LS.encs sh_LowAlt x1))] []
noncomputable def laws_szIntS (x0 : Sl) (x1 : Int) : Res := evF cx 77 [(.d (.sl false 1 x0.1 x0.2)), (.d (.int .i64 x1))] []
noncomputable def laws_toIntS (x0 : Sl) : Res := evF cx 81 [(.d (.sl false 1 x0.1 x0.2))] []
noncomputable def laws_eqIntS (x0 : Sl) (x1 : Sl) : Res := evF cx 85 [(.d (.sl false 1 x0.1 x0.2)), (.d (.sl false 1 x1.1 x1.2))] []
theorem laws_FnExactLowNodes_eq (x0 : T_Low) : laws_FnExactLowNodes x0 =
  ocall (.m (.one (.int .i64))) [] (laws_szLow x0 (1048576 : Int)) fun (r0 : Int) (m1 : Unit) =>
  oite (decide (r0 < (0 : Int)))
    (some ((.d (.bool true)), []))
    (ocall (.m (.agg sh_Low)) [] (laws_toLow x0) fun (r2 : T_Low) (m3 : Unit) =>
    ocall (.m (.one (.int .i64))) [] (spec_LowNodes r2) fun (r4 : Int) (m5 : Unit) =>
    ocall (.m (.agg sh_Low)) [] (laws_toLow x0) fun (r6 : T_Low) (m7 : Unit) =>
    ocall (.m (.one (.int .i64))) [] (impl_LowNodes r6) fun (r8 : Int) (m9 : Unit) =>
    oite (!(r8 == r4))
      (some ((.d (.bool false)), []))
      (ocall (.m (.agg sh_Low)) [] (laws_toLow x0) fun (r10 : T_Low) (m11 : Unit) =>
      ocall (.m (.one .bool)) [] (laws_eqLow r6 r10) fun (r12 : Bool) (m13 : Unit) =>
      oite (!r12)
        (some ((.d (.bool false)), []))
        (some ((.d (.bool true)), [])))) := (evF_eq ..).trans (by kernel_rfl)
theorem laws_szLow_eq (x0 : T_Low) (x1 : Int) : laws_szLow x0 x1 =
  ocall (.m (.one (.int .i64))) [] (laws_szByteS x0.2.2.2.2.1 x1) fun (r0 : Int) (m1 : Unit) =>
  oite (decide (r0 < (0 : Int)))
    (some ((.d (.int .i64 (-1 : Int))), []))
    (ocall (.m (.one (.int .i64))) [] (laws_szTy (x0.2.2.2.2.2.1, x0.2.2.2.2.2.2.1, x0.2.2.2.2.2.2.2.1, ()) r0) fun (r2 : Int) (m3 : Unit) =>
    oite (decide (r2 < (0 : Int)))
      (some ((.d (.int .i64 (-1 : Int))), []))
      (ocall (.m (.one (.int .i64))) [] (laws_szTy (x0.2.2.2.2.2.2.2.2.1, x0.2.2.2.2.2.2.2.2.2.1, x0.2.2.2.2.2.2.2.2.2.2.1, ()) r2) fun (r4 : Int) (m5 : Unit) =>
      oite (decide (r4 < (0 : Int)))
        (some ((.d (.int .i64 (-1 : Int))), []))
        (ocall (.m (.one (.int .i64))) [] (laws_szLowS x0.2.2.2.2.2.2.2.2.2.2.2.1 r4) fun (r6 : Int) (m7 : Unit) =>
        oite (decide (r6 < (0 : Int)))
          (some ((.d (.int .i64 (-1 : Int))), []))
          (ocall (.m (.one (.int .i64))) [] (laws_szLowAltS x0.2.2.2.2.2.2.2.2.2.2.2.2.1 r6) fun (r8 : Int) (m9 : Unit) =>
          oite (decide (r8 < (0 : Int)))
            (some ((.d (.int .i64 (-1 : Int))), []))
            (some ((.d (.int .i64 r8)), [])))))) := (evF_eq ..).trans (by kernel_rfl)
theorem laws_toLow_eq (x0 : T_Low) : laws_toLow x0 =
  ocall (.m (.one (.sl 1))) [] (laws_toByteS x0.2.2.2.2.1) fun (r0 : Sl) (m1 : Unit) =>
  ocall (.m (.agg sh_Ty)) [] (laws_toTy (x0.2.2.2.2.2.1, x0.2.2.2.2.2.2.1, x0.2.2.2.2.2.2.2.1, ())) fun (r2 : T_Ty) (m3 : Unit) =>
  ocall (.m (.agg sh_Ty)) [] (laws_toTy (x0.2.2.2.2.2.2.2.2.1, x0.2.2.2.2.2.2.2.2.2.1, x0.2.2.2.2.2.2.2.2.2.2.1, ())) fun (r4 : T_Ty) (m5 : Unit) =>
  ocall (.m (.one (.sl 13))) [] (laws_toLowS x0.2.2.2.2.2.2.2.2.2.2.2.1) fun (r6 : Sl) (m7 : Unit) =>
  ocall (.m (.one (.sl 15))) [] (laws_toLowAltS x0.2.2.2.2.2.2.2.2.2.2.2.2.1) fun (r8 : Sl) (m9 : Unit) =>
  some ((.agg (LS.encs sh_Low (x0.1, x0.2.1, x0.2.2.1, x0.2.2.2.1, r0, r2.1, r2.2.1, r2.2.2.1, r4.1, r4.2.1, r4.2.2.1, r6, r8, ()))), []) := (evF_eq ..).trans (by kernel_rfl)
theorem spec_LowNodes_eq (x0 : T_Low) : spec_LowNodes x0 =
  ocall (.m (.one (.int .i64))) [] (spec_l7count x0) fun (r0 : Int) (m1 : Unit) =>
  some ((.d (.int .i64 r0)), []) := (evF_eq ..).trans (by kernel_rfl)
theorem impl_LowNodes_eq (x0 : T_Low) : impl_LowNodes x0 =
  ocall (.m (.one (.int .i64))) [(.box sh_Low)] (impl_countLow (1500 : Int) x0) fun (r0 : Int) (m1 : (T_Low × Unit)) =>
  some ((.d (.int .i64 r0)), []) := (evF_eq ..).trans (by kernel_rfl)
theorem laws_eqLow_eq (x0 : T_Low) (x1 : T_Low) : laws_eqLow x0 x1 =
  oite (!(x0.1 == x1.1))
    (some ((.d (.bool false)), []))
    (oite (!(x0.2.1 == x1.2.1))
      (some ((.d (.bool false)), []))
      (oite (!(x0.2.2.1 == x1.2.2.1))
        (some ((.d (.bool false)), []))
        (oite (!(x0.2.2.2.1 == x1.2.2.2.1))
          (some ((.d (.bool false)), []))
          (ocall (.m (.one .bool)) [] (laws_eqByteS x0.2.2.2.2.1 x1.2.2.2.2.1) fun (r0 : Bool) (m1 : Unit) =>
          oite (!r0)
            (some ((.d (.bool false)), []))
            (ocall (.m (.one .bool)) [] (laws_eqTy (x0.2.2.2.2.2.1, x0.2.2.2.2.2.2.1, x0.2.2.2.2.2.2.2.1, ()) (x1.2.2.2.2.2.1, x1.2.2.2.2.2.2.1, x1.2.2.2.2.2.2.2.1, ())) fun (r2 : Bool) (m3 : Unit) =>
            oite (!r2)
              (some ((.d (.bool false)), []))
              (ocall (.m (.one .bool)) [] (laws_eqTy (x0.2.2.2.2.2.2.2.2.1, x0.2.2.2.2.2.2.2.2.2.1, x0.2.2.2.2.2.2.2.2.2.2.1, ()) (x1.2.2.2.2.2.2.2.2.1, x1.2.2.2.2.2.2.2.2.2.1, x1.2.2.2.2.2.2.2.2.2.2.1, ())) fun (r4 : Bool) (m5 : Unit) =>
              oite (!r4)
                (some ((.d (.bool false)), []))
                (ocall (.m (.one .bool)) [] (laws_eqLowS x0.2.2.2.2.2.2.2.2.2.2.2.1 x1.2.2.2.2.2.2.2.2.2.2.2.1) fun (r6 : Bool) (m7 : Unit) =>
                oite (!r6)
                  (some ((.d (.bool false)), []))
                  (ocall (.m (.one .bool)) [] (laws_eqLowAltS x0.2.2.2.2.2.2.2.2.2.2.2.2.1 x1.2.2.2.2.2.2.2.2.2.2.2.2.1) fun (r8 : Bool) (m9 : Unit) =>
                  oite (!r8)
                    (some ((.d (.bool false)), []))
                    (some ((.d (.bool true)), [])))))))))) := (evF_eq ..).trans (by kernel_rfl)
theorem laws_szByteS_eq (x0 : Sl) (x1 : Int) : laws_szByteS x0 x1 =
  oite (decide ((w64 (x1 - ((x0.1 : Nat) : Int))) < (0 : Int)))
    (some ((.d (.int .i64 (-1 : Int))), []))
    (some ((.d (.int .i64 (w64 (x1 - ((x0.1 : Nat) : Int))))), [])) := (evF_eq ..).trans (by kernel_rfl)
theorem laws_szTy_eq (x0 : T_Ty) (x1 : Int) : laws_szTy x0 x1 =
  ocall (.m (.one (.int .i64))) [] (laws_szTyS x0.2.2.1 x1) fun (r0 : Int) (m1 : Unit) =>
  oite (decide (r0 < (0 : Int)))
    (some ((.d (.int .i64 (-1 : Int))), []))
    (some ((.d (.int .i64 r0)), [])) := (evF_eq ..).trans (by kernel_rfl)
noncomputable def laws_szLowS_j1 (x0 : Int) (x1 : Int) (x2 : Sl) : Res := (fun (p : Env × Mem) => evI cx 67 0 1 p.1 p.2) ([(5, (.d (.int .i64 x0))), (1, (.d (.int .i64 x1))), (0, (.d (.sl false 13 x2.1 x2.2)))], [])
theorem laws_szLowS_eq (x0 : Sl) (x1 : Int) : laws_szLowS x0 x1 =
  oite (decide ((w64 (x1 - ((x0.1 : Nat) : Int))) < (0 : Int)))
    (some ((.d (.int .i64 (-1 : Int))), []))
    (laws_szLowS_j1 (0 : Int) (w64 (x1 - ((x0.1 : Nat) : Int))) x0) := (evF_eq ..).trans (by kernel_rfl)
-- a loop's head
theorem laws_szLowS_j1_eq (x0 : Int) (x1 : Int) (x2 : Sl) : laws_szLowS_j1 x0 x1 x2 =
  oite (decide (x0 < ((x2.1 : Nat) : Int)))
    (oat sh_Low x2.1 x2.2 x0 fun (t0 : T_Low) =>
    ocall (.m (.one (.int .i64))) [] (laws_szLow t0 x1) fun (r1 : Int) (m2 : Unit) =>
    oite (decide (r1 < (0 : Int)))
      (some ((.d (.int .i64 (-1 : Int))), []))
      (laws_szLowS_j1 (w64 (x0 + (1 : Int))) r1 x2))
    (some ((.d (.int .i64 x1)), [])) := (evI_eq ..).trans (by kernel_rfl)
noncomputable def laws_szLowAltS_j1 (x0 : Int) (x1 : Int) (x2 : Sl) : Res := (fun (p : Env × Mem) => evI cx 68 0 1 p.1 p.2) ([(5, (.d (.int .i64 x0))), (1, (.d (.int .i64 x1))), (0, (.d (.sl false 15 x2.1 x2.2)))], [])
theorem laws_szLowAltS_eq (x0 : Sl) (x1 : Int) : laws_szLowAltS x0 x1 =
  oite (decide ((w64 (x1 - ((x0.1 : Nat) : Int))) < (0 : Int)))
    (some ((.d (.int .i64 (-1 : Int))), []))
    (laws_szLowAltS_j1 (0 : Int) (w64 (x1 - ((x0.1 : Nat) : Int))) x0) := (evF_eq ..).trans (by kernel_rfl)
-- a loop's head
theorem laws_szLowAltS_j1_eq (x0 : Int) (x1 : Int) (x2 : Sl) : laws_szLowAltS_j1 x0 x1 x2 =
  oite (decide (x0 < ((x2.1 : Nat) : Int)))
    (oat sh_LowAlt x2.1 x2.2 x0 fun (t0 : T_LowAlt) =>
    ocall (.m (.one (.int .i64))) [] (laws_szLowAlt t0 x1) fun (r1 : Int) (m2 : Unit) =>
    oite (decide (r1 < (0 : Int)))
      (some ((.d (.int .i64 (-1 : Int))), []))
      (laws_szLowAltS_j1 (w64 (x0 + (1 : Int))) r1 x2))
    (some ((.d (.int .i64 x1)), [])) := (evI_eq ..).trans (by kernel_rfl)
noncomputable def laws_toByteS_j1 (x0 : Int) (x1 : Sl) (x2 : Sl) : Res := (fun (p : Env × Mem) => evI cx 70 0 1 p.1 p.2) ([(4, (.d (.int .i64 x0))), (0, (.d (.sl false 1 x1.1 x1.2))), (3, (.own 0))], [(.row 1 x2.1 false false x2.2)])
theorem laws_toByteS_eq (x0 : Sl) : laws_toByteS x0 =
  oguard (decide (((0 : Int) ≤ ((x0.1 : Nat) : Int)) ∧ ((((x0.1 : Nat) : Int) = ((x0.1 : Nat) : Int)) ∧ ((((x0.1 : Nat) : Int) * (1 : Int)) ≤ (140737488351232 : Int))))) (
  olet (List.replicate (Int.toNat ((x0.1 : Nat) : Int)) ((D.int .u8 (0 : Int)) :: [])) fun (e0 : (List (List D))) =>
  laws_toByteS_j1 (0 : Int) x0 ((Int.toNat ((x0.1 : Nat) : Int)), e0)) := (evF_eq ..).trans (by kernel_rfl)
-- a loop's head
theorem laws_toByteS_j1_eq (x0 : Int) (x1 : Sl) (x2 : Sl) : laws_toByteS_j1 x0 x1 x2 =
  oite (decide (x0 < ((x1.1 : Nat) : Int)))
    (oat [(.int .u8)] x1.1 x1.2 x0 fun (t1 : (Int × Unit)) =>
    oguard (decide (((0 : Int) ≤ x0) ∧ (x0 < ((x2.1 : Nat) : Int)))) (
    olet (List.set x2.2 (Int.toNat x0) (putD (List.getD x2.2 (Int.toNat x0) []) 0 [(D.int .u8 t1.1)])) fun (e2 : (List (List D))) =>
    laws_toByteS_j1 (w64 (x0 + (1 : Int))) x1 (x2.1, e2)))
    (some ((.d (.sl false 1 x2.1 x2.2)), [])) := (evI_eq ..).trans (by kernel_rfl)
theorem laws_toTy_eq (x0 : T_Ty) : laws_toTy x0 =
  ocall (.m (.one (.sl 3))) [] (laws_toTyS x0.2.2.1) fun (r0 : Sl) (m1 : Unit) =>
  some ((.agg (LS.encs sh_Ty (x0.1, x0.2.1, r0, ()))), []) := (evF_eq ..).trans (by kernel_rfl)
noncomputable def laws_toLowS_j1 (x0 : Int) (x1 : Sl) (x2 : Sl) : Res := (fun (p : Env × Mem) => evI cx 71 0 1 p.1 p.2) ([(4, (.d (.int .i64 x0))), (0, (.d (.sl false 13 x1.1 x1.2))), (3, (.own 0))], [(.row 13 x2.1 false false x2.2)])
theorem laws_toLowS_eq (x0 : Sl) : laws_toLowS x0 =
  oguard (decide (((0 : Int) ≤ ((x0.1 : Nat) : Int)) ∧ ((((x0.1 : Nat) : Int) = ((x0.1 : Nat) : Int)) ∧ ((((x0.1 : Nat) : Int) * (184 : Int)) ≤ (140737488351232 : Int))))) (
  olet (List.replicate (Int.toNat ((x0.1 : Nat) : Int)) (vDs (LS.encs sh_Low ((0 : Int), (0 : Int), (0 : Int), (0 : Int), (0, []), (0 : Int), (0 : Int), (0, []), (0 : Int), (0 : Int), (0, []), (0, []), (0, []), ())))) fun (e0 : (List (List D))) =>
  laws_toLowS_j1 (0 : Int) x0 ((Int.toNat ((x0.1 : Nat) : Int)), e0)) := (evF_eq ..).trans (by kernel_rfl)
-- a loop's head
theorem laws_toLowS_j1_eq (x0 : Int) (x1 : Sl) (x2 : Sl) : laws_toLowS_j1 x0 x1 x2 =
  oite (decide (x0 < ((x1.1 : Nat) : Int)))
    (oat sh_Low x1.1 x1.2 x0 fun (t1 : T_Low) =>
    ocall (.m (.agg sh_Low)) [] (laws_toLow t1) fun (r2 : T_Low) (m3 : Unit) =>
    oguard (decide (((0 : Int) ≤ x0) ∧ (x0 < ((x2.1 : Nat) : Int)))) (
    olet (List.set x2.2 (Int.toNat x0) (putD (List.getD x2.2 (Int.toNat x0) []) 0 (vDs (LS.encs sh_Low r2)))) fun (e4 : (List (List D))) =>
    laws_toLowS_j1 (w64 (x0 + (1 : Int))) x1 (x2.1, e4)))
    (some ((.d (.sl false 13 x2.1 x2.2)), [])) := (evI_eq ..).trans (by kernel_rfl)
noncomputable def laws_toLowAltS_j1 (x0 : Int) (x1 : Sl) (x2 : Sl) : Res := (fun (p : Env × Mem) => evI cx 72 0 1 p.1 p.2) ([(4, (.d (.int .i64 x0))), (0, (.d (.sl false 15 x1.1 x1.2))), (3, (.own 0))], [(.row 15 x2.1 false false x2.2)])
theorem laws_toLowAltS_eq (x0 : Sl) : laws_toLowAltS x0 =
  oguard (decide (((0 : Int) ≤ ((x0.1 : Nat) : Int)) ∧ ((((x0.1 : Nat) : Int) = ((x0.1 : Nat) : Int)) ∧ ((((x0.1 : Nat) : Int) * (216 : Int)) ≤ (140737488351232 : Int))))) (
  olet (List.replicate (Int.toNat ((x0.1 : Nat) : Int)) (vDs (LS.encs sh_LowAlt ((0 : Int), (0, []), (0 : Int), (0 : Int), (0 : Int), (0 : Int), (0, []), (0 : Int), (0 : Int), (0, []), (0 : Int), (0 : Int), (0, []), (0, []), (0, []), ())))) fun (e0 : (List (List D))) =>
  laws_toLowAltS_j1 (0 : Int) x0 ((Int.toNat ((x0.1 : Nat) : Int)), e0)) := (evF_eq ..).trans (by kernel_rfl)
-- a loop's head
theorem laws_toLowAltS_j1_eq (x0 : Int) (x1 : Sl) (x2 : Sl) : laws_toLowAltS_j1 x0 x1 x2 =
  oite (decide (x0 < ((x1.1 : Nat) : Int)))
    (oat sh_LowAlt x1.1 x1.2 x0 fun (t1 : T_LowAlt) =>
    ocall (.m (.agg sh_LowAlt)) [] (laws_toLowAlt t1) fun (r2 : T_LowAlt) (m3 : Unit) =>
    oguard (decide (((0 : Int) ≤ x0) ∧ (x0 < ((x2.1 : Nat) : Int)))) (
    olet (List.set x2.2 (Int.toNat x0) (putD (List.getD x2.2 (Int.toNat x0) []) 0 (vDs (LS.encs sh_LowAlt r2)))) fun (e4 : (List (List D))) =>
    laws_toLowAltS_j1 (w64 (x0 + (1 : Int))) x1 (x2.1, e4)))
    (some ((.d (.sl false 15 x2.1 x2.2)), [])) := (evI_eq ..).trans (by kernel_rfl)
theorem spec_l7count_eq (x0 : T_Low) : spec_l7count x0 =
  ocall (.tup []) [(.box [(.int .i64)])] (spec_l7parts x0 (1501 : Int)) fun (r0 : Unit) (m1 : ((Int × Unit) × Unit)) =>
  some ((.d (.int .i64 (w64 ((1501 : Int) - m1.1.1)))), []) := (evF_eq ..).trans (by kernel_rfl)
noncomputable def impl_countLow_j1 (x0 : Int) (x1 : Int) (x2 : Int) (x3 : Int) (x4 : T_Low) : Res := (fun (p : Env × Mem) => evI cx 73 1 1 p.1 p.2) ([(1, (.d (.int .i64 x0))), (13, (.d (.int .i64 x1))), (5, (.d (.int .i64 x2))), (0, (.ptr 0 0)), (12, (.d (.int .i64 x3)))], [(.box (LS.encs sh_Low x4))])
noncomputable def impl_countLow_j2 (x0 : Int) (x1 : Int) (x2 : Int) (x3 : Int) (x4 : T_Low) : Res := (fun (p : Env × Mem) => evI cx 73 1 2 p.1 p.2) ([(1, (.d (.int .i64 x0))), (39, (.d (.int .i64 x1))), (5, (.d (.int .i64 x2))), (0, (.ptr 0 0)), (38, (.d (.int .i64 x3)))], [(.box (LS.encs sh_Low x4))])
theorem impl_countLow_eq (x0 : Int) (x1 : T_Low) : impl_countLow x0 x1 =
  impl_countLow_j1 x0 (0 : Int) (1 : Int) ((x1.2.2.2.2.2.2.2.2.2.2.2.1.1 : Nat) : Int) x1 := (evF_eq ..).trans (by kernel_rfl)
-- a loop's head
theorem impl_countLow_j1_eq (x0 : Int) (x1 : Int) (x2 : Int) (x3 : Int) (x4 : T_Low) : impl_countLow_j1 x0 x1 x2 x3 x4 =
  oite (decide (x1 < x3))
    (oite (decide (x2 > x0))
      (some ((.d (.int .i64 (w64 (x0 + (1 : Int))))), [(.box (LS.encs sh_Low x4))]))
      (oat sh_Low x4.2.2.2.2.2.2.2.2.2.2.2.1.1 x4.2.2.2.2.2.2.2.2.2.2.2.1.2 x1 fun (t0 : T_Low) =>
      ocall (.m (.one (.int .i64))) [] (impl_countLow_r t0 (w64 (x0 - x2))) fun (r1 : Int) (m2 : Unit) =>
      impl_countLow_j1 x0 (w64 (x1 + (1 : Int))) (w64 (x2 + r1)) x3 x4))
    (impl_countLow_j2 x0 (0 : Int) x2 ((x4.2.2.2.2.2.2.2.2.2.2.2.2.1.1 : Nat) : Int) x4) := (evI_eq ..).trans (by kernel_rfl)
-- a loop's head
theorem impl_countLow_j2_eq (x0 : Int) (x1 : Int) (x2 : Int) (x3 : Int) (x4 : T_Low) : impl_countLow_j2 x0 x1 x2 x3 x4 =
  oite (decide (x1 < x3))
    (oite (decide (x2 > x0))
      (some ((.d (.int .i64 (w64 (x0 + (1 : Int))))), [(.box (LS.encs sh_Low x4))]))
      (oat sh_LowAlt x4.2.2.2.2.2.2.2.2.2.2.2.2.1.1 x4.2.2.2.2.2.2.2.2.2.2.2.2.1.2 x1 fun (t3 : T_LowAlt) =>
      ocall (.m (.one (.int .i64))) [] (impl_countLow_r t3.2.2 (w64 (x0 - x2))) fun (r4 : Int) (m5 : Unit) =>
      impl_countLow_j2 x0 (w64 (x1 + (1 : Int))) (w64 (x2 + r4)) x3 x4))
    (some ((.d (.int .i64 (min x2 (w64 (x0 + (1 : Int)))))), [(.box (LS.encs sh_Low x4))])) := (evI_eq ..).trans (by kernel_rfl)
noncomputable def laws_eqByteS_j1 (x0 : Int) (x1 : Sl) (x2 : Sl) : Res := (fun (p : Env × Mem) => evI cx 74 0 1 p.1 p.2) ([(5, (.d (.int .i64 x0))), (1, (.d (.sl false 1 x1.1 x1.2))), (0, (.d (.sl false 1 x2.1 x2.2)))], [])
theorem laws_eqByteS_eq (x0 : Sl) (x1 : Sl) : laws_eqByteS x0 x1 =
  oite (!(((x0.1 : Nat) : Int) == ((x1.1 : Nat) : Int)))
    (some ((.d (.bool false)), []))
    (laws_eqByteS_j1 (0 : Int) x1 x0) := (evF_eq ..).trans (by kernel_rfl)
-- a loop's head
theorem laws_eqByteS_j1_eq (x0 : Int) (x1 : Sl) (x2 : Sl) : laws_eqByteS_j1 x0 x1 x2 =
  oite (decide (x0 < ((x2.1 : Nat) : Int)))
    (oat [(.int .u8)] x2.1 x2.2 x0 fun (t0 : (Int × Unit)) =>
    oat [(.int .u8)] x1.1 x1.2 x0 fun (t1 : (Int × Unit)) =>
    oite (!(t0.1 == t1.1))
      (some ((.d (.bool false)), []))
      (laws_eqByteS_j1 (w64 (x0 + (1 : Int))) x1 x2))
    (some ((.d (.bool true)), [])) := (evI_eq ..).trans (by kernel_rfl)
theorem laws_eqTy_eq (x0 : T_Ty) (x1 : T_Ty) : laws_eqTy x0 x1 =
  oite (!(x0.1 == x1.1))
    (some ((.d (.bool false)), []))
    (oite (!(x0.2.1 == x1.2.1))
      (some ((.d (.bool false)), []))
      (ocall (.m (.one .bool)) [] (laws_eqTyS x0.2.2.1 x1.2.2.1) fun (r0 : Bool) (m1 : Unit) =>
      oite (!r0)
        (some ((.d (.bool false)), []))
        (some ((.d (.bool true)), [])))) := (evF_eq ..).trans (by kernel_rfl)
noncomputable def laws_eqLowS_j1 (x0 : Int) (x1 : Sl) (x2 : Sl) : Res := (fun (p : Env × Mem) => evI cx 75 0 1 p.1 p.2) ([(5, (.d (.int .i64 x0))), (1, (.d (.sl false 13 x1.1 x1.2))), (0, (.d (.sl false 13 x2.1 x2.2)))], [])
theorem laws_eqLowS_eq (x0 : Sl) (x1 : Sl) : laws_eqLowS x0 x1 =
  oite (!(((x0.1 : Nat) : Int) == ((x1.1 : Nat) : Int)))
    (some ((.d (.bool false)), []))
    (laws_eqLowS_j1 (0 : Int) x1 x0) := (evF_eq ..).trans (by kernel_rfl)
-- a loop's head
theorem laws_eqLowS_j1_eq (x0 : Int) (x1 : Sl) (x2 : Sl) : laws_eqLowS_j1 x0 x1 x2 =
  oite (decide (x0 < ((x2.1 : Nat) : Int)))
    (oat sh_Low x2.1 x2.2 x0 fun (t0 : T_Low) =>
    oat sh_Low x1.1 x1.2 x0 fun (t1 : T_Low) =>
    ocall (.m (.one .bool)) [] (laws_eqLow t0 t1) fun (r2 : Bool) (m3 : Unit) =>
    oite (!r2)
      (some ((.d (.bool false)), []))
      (laws_eqLowS_j1 (w64 (x0 + (1 : Int))) x1 x2))
    (some ((.d (.bool true)), [])) := (evI_eq ..).trans (by kernel_rfl)
noncomputable def laws_eqLowAltS_j1 (x0 : Int) (x1 : Sl) (x2 : Sl) : Res := (fun (p : Env × Mem) => evI cx 76 0 1 p.1 p.2) ([(5, (.d (.int .i64 x0))), (1, (.d (.sl false 15 x1.1 x1.2))), (0, (.d (.sl false 15 x2.1 x2.2)))], [])
theorem laws_eqLowAltS_eq (x0 : Sl) (x1 : Sl) : laws_eqLowAltS x0 x1 =
  oite (!(((x0.1 : Nat) : Int) == ((x1.1 : Nat) : Int)))
    (some ((.d (.bool false)), []))
    (laws_eqLowAltS_j1 (0 : Int) x1 x0) := (evF_eq ..).trans (by kernel_rfl)
-- a loop's head
theorem laws_eqLowAltS_j1_eq (x0 : Int) (x1 : Sl) (x2 : Sl) : laws_eqLowAltS_j1 x0 x1 x2 =
  oite (decide (x0 < ((x2.1 : Nat) : Int)))
    (oat sh_LowAlt x2.1 x2.2 x0 fun (t0 : T_LowAlt) =>
    oat sh_LowAlt x1.1 x1.2 x0 fun (t1 : T_LowAlt) =>
    ocall (.m (.one .bool)) [] (laws_eqLowAlt t0 t1) fun (r2 : Bool) (m3 : Unit) =>
    oite (!r2)
      (some ((.d (.bool false)), []))
      (laws_eqLowAltS_j1 (w64 (x0 + (1 : Int))) x1 x2))
    (some ((.d (.bool true)), [])) := (evI_eq ..).trans (by kernel_rfl)
noncomputable def laws_szTyS_j1 (x0 : Int) (x1 : Int) (x2 : Sl) : Res := (fun (p : Env × Mem) => evI cx 37 0 1 p.1 p.2) ([(5, (.d (.int .i64 x0))), (1, (.d (.int .i64 x1))), (0, (.d (.sl false 3 x2.1 x2.2)))], [])
theorem laws_szTyS_eq (x0 : Sl) (x1 : Int) : laws_szTyS x0 x1 =
  oite (decide ((w64 (x1 - ((x0.1 : Nat) : Int))) < (0 : Int)))
    (some ((.d (.int .i64 (-1 : Int))), []))
    (laws_szTyS_j1 (0 : Int) (w64 (x1 - ((x0.1 : Nat) : Int))) x0) := (evF_eq ..).trans (by kernel_rfl)
-- a loop's head
theorem laws_szTyS_j1_eq (x0 : Int) (x1 : Int) (x2 : Sl) : laws_szTyS_j1 x0 x1 x2 =
  oite (decide (x0 < ((x2.1 : Nat) : Int)))
    (oat sh_Ty x2.1 x2.2 x0 fun (t0 : T_Ty) =>
    ocall (.m (.one (.int .i64))) [] (laws_szTy t0 x1) fun (r1 : Int) (m2 : Unit) =>
    oite (decide (r1 < (0 : Int)))
      (some ((.d (.int .i64 (-1 : Int))), []))
      (laws_szTyS_j1 (w64 (x0 + (1 : Int))) r1 x2))
    (some ((.d (.int .i64 x1)), [])) := (evI_eq ..).trans (by kernel_rfl)
theorem laws_szLowAlt_eq (x0 : T_LowAlt) (x1 : Int) : laws_szLowAlt x0 x1 =
  ocall (.m (.one (.int .i64))) [] (laws_szIntS x0.2.1 x1) fun (r0 : Int) (m1 : Unit) =>
  oite (decide (r0 < (0 : Int)))
    (some ((.d (.int .i64 (-1 : Int))), []))
    (ocall (.m (.one (.int .i64))) [] (laws_szLow x0.2.2 r0) fun (r2 : Int) (m3 : Unit) =>
    oite (decide (r2 < (0 : Int)))
      (some ((.d (.int .i64 (-1 : Int))), []))
      (some ((.d (.int .i64 r2)), []))) := (evF_eq ..).trans (by kernel_rfl)
noncomputable def laws_toTyS_j1 (x0 : Int) (x1 : Sl) (x2 : Sl) : Res := (fun (p : Env × Mem) => evI cx 40 0 1 p.1 p.2) ([(4, (.d (.int .i64 x0))), (0, (.d (.sl false 3 x1.1 x1.2))), (3, (.own 0))], [(.row 3 x2.1 false false x2.2)])
theorem laws_toTyS_eq (x0 : Sl) : laws_toTyS x0 =
  oguard (decide (((0 : Int) ≤ ((x0.1 : Nat) : Int)) ∧ ((((x0.1 : Nat) : Int) = ((x0.1 : Nat) : Int)) ∧ ((((x0.1 : Nat) : Int) * (40 : Int)) ≤ (140737488351232 : Int))))) (
  olet (List.replicate (Int.toNat ((x0.1 : Nat) : Int)) (vDs (LS.encs sh_Ty ((0 : Int), (0 : Int), (0, []), ())))) fun (e0 : (List (List D))) =>
  laws_toTyS_j1 (0 : Int) x0 ((Int.toNat ((x0.1 : Nat) : Int)), e0)) := (evF_eq ..).trans (by kernel_rfl)
-- a loop's head
theorem laws_toTyS_j1_eq (x0 : Int) (x1 : Sl) (x2 : Sl) : laws_toTyS_j1 x0 x1 x2 =
  oite (decide (x0 < ((x1.1 : Nat) : Int)))
    (oat sh_Ty x1.1 x1.2 x0 fun (t1 : T_Ty) =>
    ocall (.m (.agg sh_Ty)) [] (laws_toTy t1) fun (r2 : T_Ty) (m3 : Unit) =>
    oguard (decide (((0 : Int) ≤ x0) ∧ (x0 < ((x2.1 : Nat) : Int)))) (
    olet (List.set x2.2 (Int.toNat x0) (putD (List.getD x2.2 (Int.toNat x0) []) 0 (vDs (LS.encs sh_Ty r2)))) fun (e4 : (List (List D))) =>
    laws_toTyS_j1 (w64 (x0 + (1 : Int))) x1 (x2.1, e4)))
    (some ((.d (.sl false 3 x2.1 x2.2)), [])) := (evI_eq ..).trans (by kernel_rfl)
theorem laws_toLowAlt_eq (x0 : T_LowAlt) : laws_toLowAlt x0 =
  ocall (.m (.one (.sl 1))) [] (laws_toIntS x0.2.1) fun (r0 : Sl) (m1 : Unit) =>
  ocall (.m (.agg sh_Low)) [] (laws_toLow x0.2.2) fun (r2 : T_Low) (m3 : Unit) =>
  some ((.agg (LS.encs sh_LowAlt (x0.1, r0, r2.1, r2.2.1, r2.2.2.1, r2.2.2.2.1, r2.2.2.2.2.1, r2.2.2.2.2.2.1, r2.2.2.2.2.2.2.1, r2.2.2.2.2.2.2.2.1, r2.2.2.2.2.2.2.2.2.1, r2.2.2.2.2.2.2.2.2.2.1, r2.2.2.2.2.2.2.2.2.2.2.1, r2.2.2.2.2.2.2.2.2.2.2.2.1, r2.2.2.2.2.2.2.2.2.2.2.2.2.1, ()))), []) := (evF_eq ..).trans (by kernel_rfl)
noncomputable def spec_l7parts_j1 (x0 : Int) (x1 : Int) (x2 : T_Low) : Res := (fun (p : Env × Mem) => evI cx 133 1 1 p.1 p.2) ([(4, (.d (.int .i64 x0))), (1, (.ptr 0 0)), (2, (.ptr 1 0))], [(.box [(.d (.int .i64 x1))]), (.box (LS.encs sh_Low x2))])
noncomputable def spec_l7parts_j2 (x0 : Int) (x1 : Int) (x2 : T_Low) : Res := (fun (p : Env × Mem) => evI cx 133 1 2 p.1 p.2) ([(5, (.d (.int .i64 x0))), (1, (.ptr 0 0)), (2, (.ptr 1 0))], [(.box [(.d (.int .i64 x1))]), (.box (LS.encs sh_Low x2))])
theorem spec_l7parts_eq (x0 : T_Low) (x1 : Int) : spec_l7parts x0 x1 =
  oite (x1 == (0 : Int))
    (some ((.tup []), [(.box [(.d (.int .i64 x1))])]))
    (spec_l7parts_j1 (0 : Int) (w64 (x1 - (1 : Int))) x0) := (evF_eq ..).trans (by kernel_rfl)
-- a loop's head
theorem spec_l7parts_j1_eq (x0 : Int) (x1 : Int) (x2 : T_Low) : spec_l7parts_j1 x0 x1 x2 =
  oite (decide (x0 < ((x2.2.2.2.2.2.2.2.2.2.2.2.1.1 : Nat) : Int)))
    (oat sh_Low x2.2.2.2.2.2.2.2.2.2.2.2.1.1 x2.2.2.2.2.2.2.2.2.2.2.2.1.2 x0 fun (t0 : T_Low) =>
    ocall (.tup []) [(.box [(.int .i64)])] (spec_l7parts t0 x1) fun (r1 : Unit) (m2 : ((Int × Unit) × Unit)) =>
    spec_l7parts_j1 (w64 (x0 + (1 : Int))) m2.1.1 x2)
    (spec_l7parts_j2 (0 : Int) x1 x2) := (evI_eq ..).trans (by kernel_rfl)
-- a loop's head
theorem spec_l7parts_j2_eq (x0 : Int) (x1 : Int) (x2 : T_Low) : spec_l7parts_j2 x0 x1 x2 =
  oite (decide (x0 < ((x2.2.2.2.2.2.2.2.2.2.2.2.2.1.1 : Nat) : Int)))
    (oat sh_LowAlt x2.2.2.2.2.2.2.2.2.2.2.2.2.1.1 x2.2.2.2.2.2.2.2.2.2.2.2.2.1.2 x0 fun (t3 : T_LowAlt) =>
    ocall (.tup []) [(.box [(.int .i64)])] (spec_l7parts t3.2.2 x1) fun (r4 : Unit) (m5 : ((Int × Unit) × Unit)) =>
    spec_l7parts_j2 (w64 (x0 + (1 : Int))) m5.1.1 x2)
    (some ((.tup []), [(.box [(.d (.int .i64 x1))])])) := (evI_eq ..).trans (by kernel_rfl)
noncomputable def impl_countLow_r_j1 (x0 : Int) (x1 : Int) (x2 : Int) (x3 : T_Low) (x4 : Int) : Res := (fun (p : Env × Mem) => evI cx 73 0 1 p.1 p.2) ([(1, (.d (.int .i64 x0))), (13, (.d (.int .i64 x1))), (5, (.d (.int .i64 x2))), (0, (.rp (vDs (LS.encs sh_Low x3)) 0)), (12, (.d (.int .i64 x4)))], [])
noncomputable def impl_countLow_r_j2 (x0 : Int) (x1 : Int) (x2 : Int) (x3 : T_Low) (x4 : Int) : Res := (fun (p : Env × Mem) => evI cx 73 0 2 p.1 p.2) ([(1, (.d (.int .i64 x0))), (39, (.d (.int .i64 x1))), (5, (.d (.int .i64 x2))), (0, (.rp (vDs (LS.encs sh_Low x3)) 0)), (38, (.d (.int .i64 x4)))], [])
theorem impl_countLow_r_eq (x0 : T_Low) (x1 : Int) : impl_countLow_r x0 x1 =
  impl_countLow_r_j1 x1 (0 : Int) (1 : Int) x0 ((x0.2.2.2.2.2.2.2.2.2.2.2.1.1 : Nat) : Int) := (evF_eq ..).trans (by kernel_rfl)
-- a loop's head
theorem impl_countLow_r_j1_eq (x0 : Int) (x1 : Int) (x2 : Int) (x3 : T_Low) (x4 : Int) : impl_countLow_r_j1 x0 x1 x2 x3 x4 =
  oite (decide (x1 < x4))
    (oite (decide (x2 > x0))
      (some ((.d (.int .i64 (w64 (x0 + (1 : Int))))), []))
      (oat sh_Low x3.2.2.2.2.2.2.2.2.2.2.2.1.1 x3.2.2.2.2.2.2.2.2.2.2.2.1.2 x1 fun (t0 : T_Low) =>
      ocall (.m (.one (.int .i64))) [] (impl_countLow_r t0 (w64 (x0 - x2))) fun (r1 : Int) (m2 : Unit) =>
      impl_countLow_r_j1 x0 (w64 (x1 + (1 : Int))) (w64 (x2 + r1)) x3 x4))
    (impl_countLow_r_j2 x0 (0 : Int) x2 x3 ((x3.2.2.2.2.2.2.2.2.2.2.2.2.1.1 : Nat) : Int)) := (evI_eq ..).trans (by kernel_rfl)
-- a loop's head
theorem impl_countLow_r_j2_eq (x0 : Int) (x1 : Int) (x2 : Int) (x3 : T_Low) (x4 : Int) : impl_countLow_r_j2 x0 x1 x2 x3 x4 =
  oite (decide (x1 < x4))
    (oite (decide (x2 > x0))
      (some ((.d (.int .i64 (w64 (x0 + (1 : Int))))), []))
      (oat sh_LowAlt x3.2.2.2.2.2.2.2.2.2.2.2.2.1.1 x3.2.2.2.2.2.2.2.2.2.2.2.2.1.2 x1 fun (t3 : T_LowAlt) =>
      ocall (.m (.one (.int .i64))) [] (impl_countLow_r t3.2.2 (w64 (x0 - x2))) fun (r4 : Int) (m5 : Unit) =>
      impl_countLow_r_j2 x0 (w64 (x1 + (1 : Int))) (w64 (x2 + r4)) x3 x4))
    (some ((.d (.int .i64 (min x2 (w64 (x0 + (1 : Int)))))), [])) := (evI_eq ..).trans (by kernel_rfl)
noncomputable def laws_eqTyS_j1 (x0 : Int) (x1 : Sl) (x2 : Sl) : Res := (fun (p : Env × Mem) => evI cx 43 0 1 p.1 p.2) ([(5, (.d (.int .i64 x0))), (1, (.d (.sl false 3 x1.1 x1.2))), (0, (.d (.sl false 3 x2.1 x2.2)))], [])
theorem laws_eqTyS_eq (x0 : Sl) (x1 : Sl) : laws_eqTyS x0 x1 =
  oite (!(((x0.1 : Nat) : Int) == ((x1.1 : Nat) : Int)))
    (some ((.d (.bool false)), []))
    (laws_eqTyS_j1 (0 : Int) x1 x0) := (evF_eq ..).trans (by kernel_rfl)
-- a loop's head
theorem laws_eqTyS_j1_eq (x0 : Int) (x1 : Sl) (x2 : Sl) : laws_eqTyS_j1 x0 x1 x2 =
  oite (decide (x0 < ((x2.1 : Nat) : Int)))
    (oat sh_Ty x2.1 x2.2 x0 fun (t0 : T_Ty) =>
    oat sh_Ty x1.1 x1.2 x0 fun (t1 : T_Ty) =>
    ocall (.m (.one .bool)) [] (laws_eqTy t0 t1) fun (r2 : Bool) (m3 : Unit) =>
    oite (!r2)
      (some ((.d (.bool false)), []))
      (laws_eqTyS_j1 (w64 (x0 + (1 : Int))) x1 x2))
    (some ((.d (.bool true)), [])) := (evI_eq ..).trans (by kernel_rfl)
theorem laws_eqLowAlt_eq (x0 : T_LowAlt) (x1 : T_LowAlt) : laws_eqLowAlt x0 x1 =
  oite (!(x0.1 == x1.1))
    (some ((.d (.bool false)), []))
    (ocall (.m (.one .bool)) [] (laws_eqIntS x0.2.1 x1.2.1) fun (r0 : Bool) (m1 : Unit) =>
    oite (!r0)
      (some ((.d (.bool false)), []))
      (ocall (.m (.one .bool)) [] (laws_eqLow x0.2.2 x1.2.2) fun (r2 : Bool) (m3 : Unit) =>
      oite (!r2)
        (some ((.d (.bool false)), []))
        (some ((.d (.bool true)), [])))) := (evF_eq ..).trans (by kernel_rfl)
theorem laws_szIntS_eq (x0 : Sl) (x1 : Int) : laws_szIntS x0 x1 =
  oite (decide ((w64 (x1 - ((x0.1 : Nat) : Int))) < (0 : Int)))
    (some ((.d (.int .i64 (-1 : Int))), []))
    (some ((.d (.int .i64 (w64 (x1 - ((x0.1 : Nat) : Int))))), [])) := (evF_eq ..).trans (by kernel_rfl)
noncomputable def laws_toIntS_j1 (x0 : Int) (x1 : Sl) (x2 : Sl) : Res := (fun (p : Env × Mem) => evI cx 81 0 1 p.1 p.2) ([(4, (.d (.int .i64 x0))), (0, (.d (.sl false 1 x1.1 x1.2))), (3, (.own 0))], [(.row 1 x2.1 false false x2.2)])
theorem laws_toIntS_eq (x0 : Sl) : laws_toIntS x0 =
  oguard (decide (((0 : Int) ≤ ((x0.1 : Nat) : Int)) ∧ ((((x0.1 : Nat) : Int) = ((x0.1 : Nat) : Int)) ∧ ((((x0.1 : Nat) : Int) * (8 : Int)) ≤ (140737488351232 : Int))))) (
  olet (List.replicate (Int.toNat ((x0.1 : Nat) : Int)) ((D.int .i64 (0 : Int)) :: [])) fun (e0 : (List (List D))) =>
  laws_toIntS_j1 (0 : Int) x0 ((Int.toNat ((x0.1 : Nat) : Int)), e0)) := (evF_eq ..).trans (by kernel_rfl)
-- a loop's head
theorem laws_toIntS_j1_eq (x0 : Int) (x1 : Sl) (x2 : Sl) : laws_toIntS_j1 x0 x1 x2 =
  oite (decide (x0 < ((x1.1 : Nat) : Int)))
    (oat [(.int .i64)] x1.1 x1.2 x0 fun (t1 : (Int × Unit)) =>
    oguard (decide (((0 : Int) ≤ x0) ∧ (x0 < ((x2.1 : Nat) : Int)))) (
    olet (List.set x2.2 (Int.toNat x0) (putD (List.getD x2.2 (Int.toNat x0) []) 0 [(D.int .i64 t1.1)])) fun (e2 : (List (List D))) =>
    laws_toIntS_j1 (w64 (x0 + (1 : Int))) x1 (x2.1, e2)))
    (some ((.d (.sl false 1 x2.1 x2.2)), [])) := (evI_eq ..).trans (by kernel_rfl)
noncomputable def laws_eqIntS_j1 (x0 : Int) (x1 : Sl) (x2 : Sl) : Res := (fun (p : Env × Mem) => evI cx 85 0 1 p.1 p.2) ([(5, (.d (.int .i64 x0))), (1, (.d (.sl false 1 x1.1 x1.2))), (0, (.d (.sl false 1 x2.1 x2.2)))], [])
theorem laws_eqIntS_eq (x0 : Sl) (x1 : Sl) : laws_eqIntS x0 x1 =
  oite (!(((x0.1 : Nat) : Int) == ((x1.1 : Nat) : Int)))
    (some ((.d (.bool false)), []))
    (laws_eqIntS_j1 (0 : Int) x1 x0) := (evF_eq ..).trans (by kernel_rfl)
-- a loop's head
theorem laws_eqIntS_j1_eq (x0 : Int) (x1 : Sl) (x2 : Sl) : laws_eqIntS_j1 x0 x1 x2 =
  oite (decide (x0 < ((x2.1 : Nat) : Int)))
    (oat [(.int .i64)] x2.1 x2.2 x0 fun (t0 : (Int × Unit)) =>
    oat [(.int .i64)] x1.1 x1.2 x0 fun (t1 : (Int × Unit)) =>
    oite (!(t0.1 == t1.1))
      (some ((.d (.bool false)), []))
      (laws_eqIntS_j1 (w64 (x0 + (1 : Int))) x1 x2))
    (some ((.d (.bool true)), [])) := (evI_eq ..).trans (by kernel_rfl)
theorem ty29 : TIok Try.prog 29 ⟨13, 184, true, (.st [(0, 3), (1, 3), (2, 3), (3, 3), (4, 22), (5, 25), (8, 25), (11, 26), (12, 27)]), [.d (.int .i64 0), .d (.int .i64 0), .d (.int .i64 0), .d (.int .i64 0), .d (.sl true 1 0 []), .d (.int .i64 0), .d (.int .i64 0), .d (.sl true 3 0 []), .d (.int .i64 0), .d (.int .i64 0), .d (.sl true 3 0 []), .d (.sl true 13 0 []), .d (.sl true 15 0 [])], [.int .i64, .int .i64, .int .i64, .int .i64, .sl 1, .int .i64, .int .i64, .sl 3, .int .i64, .int .i64, .sl 3, .sl 13, .sl 15]⟩ := ⟨Try.sizeOf29, Try.isAgg29, ⟨_, Try.runUnderlying29, rfl, f_cons Try.sizeOf3 (f_cons Try.sizeOf3 (f_cons Try.sizeOf3 (f_cons Try.sizeOf3 (f_cons Try.sizeOf22 (f_cons Try.sizeOf25 (f_cons Try.sizeOf25 (f_cons Try.sizeOf26 (f_cons Try.sizeOf27 (f_end)))))))))⟩, ⟨_, Try.typeInfo29, rfl⟩, by decide, by decide, ⟨_, Try.zeroValue29, rfl, fun w C ι => z_cons z_int (z_cons z_int (z_cons z_int (z_cons z_int (z_cons z_nil (z_cons z_int (z_cons z_int (z_cons z_nil (z_cons z_int (z_cons z_int (z_cons z_nil (z_cons z_nil (z_cons z_nil (z_end)))))))))))))⟩⟩
theorem ty3 : TIok Try.prog 3 ⟨1, 8, false, (.int .i64), [.d (.int .i64 0)], [.int .i64]⟩ := ⟨Try.sizeOf3, Try.isAgg3, Try.runUnderlying3, ⟨_, Try.typeInfo3, rfl⟩, by decide, by decide, ⟨_, Try.zeroValue3, rfl, fun w C ι => z_cons z_int (z_end)⟩⟩
theorem ty22 : TIok Try.prog 22 ⟨1, 24, false, (.sl 5), [.d (.sl true 1 0 [])], [.sl 1]⟩ := ⟨Try.sizeOf22, Try.isAgg22, Try.runUnderlying22, ⟨_, Try.typeInfo22, rfl⟩, by decide, by decide, ⟨_, Try.zeroValue22, rfl, fun w C ι => z_cons z_nil (z_end)⟩⟩
theorem ty5 : TIok Try.prog 5 ⟨1, 1, false, (.int .u8), [.d (.int .u8 0)], [.int .u8]⟩ := ⟨Try.sizeOf5, Try.isAgg5, Try.runUnderlying5, ⟨_, Try.typeInfo5, rfl⟩, by decide, by decide, ⟨_, Try.zeroValue5, rfl, fun w C ι => z_cons z_int (z_end)⟩⟩
theorem ty25 : TIok Try.prog 25 ⟨3, 40, true, (.st [(0, 3), (1, 3), (2, 23)]), [.d (.int .i64 0), .d (.int .i64 0), .d (.sl true 3 0 [])], [.int .i64, .int .i64, .sl 3]⟩ := ⟨Try.sizeOf25, Try.isAgg25, ⟨_, Try.runUnderlying25, rfl, f_cons Try.sizeOf3 (f_cons Try.sizeOf3 (f_cons Try.sizeOf23 (f_end)))⟩, ⟨_, Try.typeInfo25, rfl⟩, by decide, by decide, ⟨_, Try.zeroValue25, rfl, fun w C ι => z_cons z_int (z_cons z_int (z_cons z_nil (z_end)))⟩⟩
theorem ty23 : TIok Try.prog 23 ⟨1, 24, false, (.sl 25), [.d (.sl true 3 0 [])], [.sl 3]⟩ := ⟨Try.sizeOf23, Try.isAgg23, Try.runUnderlying23, ⟨_, Try.typeInfo23, rfl⟩, by decide, by decide, ⟨_, Try.zeroValue23, rfl, fun w C ι => z_cons z_nil (z_end)⟩⟩
theorem ty26 : TIok Try.prog 26 ⟨1, 24, false, (.sl 29), [.d (.sl true 13 0 [])], [.sl 13]⟩ := ⟨Try.sizeOf26, Try.isAgg26, Try.runUnderlying26, ⟨_, Try.typeInfo26, rfl⟩, by decide, by decide, ⟨_, Try.zeroValue26, rfl, fun w C ι => z_cons z_nil (z_end)⟩⟩
theorem ty27 : TIok Try.prog 27 ⟨1, 24, false, (.sl 165), [.d (.sl true 15 0 [])], [.sl 15]⟩ := ⟨Try.sizeOf27, Try.isAgg27, Try.runUnderlying27, ⟨_, Try.typeInfo27, rfl⟩, by decide, by decide, ⟨_, Try.zeroValue27, rfl, fun w C ι => z_cons z_nil (z_end)⟩⟩
theorem ty165 : TIok Try.prog 165 ⟨15, 216, true, (.st [(0, 3), (1, 42), (2, 29)]), [.d (.int .i64 0), .d (.sl true 1 0 []), .d (.int .i64 0), .d (.int .i64 0), .d (.int .i64 0), .d (.int .i64 0), .d (.sl true 1 0 []), .d (.int .i64 0), .d (.int .i64 0), .d (.sl true 3 0 []), .d (.int .i64 0), .d (.int .i64 0), .d (.sl true 3 0 []), .d (.sl true 13 0 []), .d (.sl true 15 0 [])], [.int .i64, .sl 1, .int .i64, .int .i64, .int .i64, .int .i64, .sl 1, .int .i64, .int .i64, .sl 3, .int .i64, .int .i64, .sl 3, .sl 13, .sl 15]⟩ := ⟨Try.sizeOf165, Try.isAgg165, ⟨_, Try.runUnderlying165, rfl, f_cons Try.sizeOf3 (f_cons Try.sizeOf42 (f_cons Try.sizeOf29 (f_end)))⟩, ⟨_, Try.typeInfo165, rfl⟩, by decide, by decide, ⟨_, Try.zeroValue165, rfl, fun w C ι => z_cons z_int (z_cons z_nil (z_cons z_int (z_cons z_int (z_cons z_int (z_cons z_int (z_cons z_nil (z_cons z_int (z_cons z_int (z_cons z_nil (z_cons z_int (z_cons z_int (z_cons z_nil (z_cons z_nil (z_cons z_nil (z_end)))))))))))))))⟩⟩
theorem ty42 : TIok Try.prog 42 ⟨1, 24, false, (.sl 3), [.d (.sl true 1 0 [])], [.sl 1]⟩ := ⟨Try.sizeOf42, Try.isAgg42, Try.runUnderlying42, ⟨_, Try.typeInfo42, rfl⟩, by decide, by decide, ⟨_, Try.zeroValue42, rfl, fun w C ι => z_cons z_nil (z_end)⟩⟩
theorem ty4 : TIok Try.prog 4 ⟨1, 1, false, .bool, [.d (.bool false)], [.bool]⟩ := ⟨Try.sizeOf4, Try.isAgg4, Try.runUnderlying4, ⟨_, Try.typeInfo4, rfl⟩, by decide, by decide, ⟨_, Try.zeroValue4, rfl, fun w C ι => z_cons z_bool (z_end)⟩⟩
theorem ty38 : TIok Try.prog 38 ⟨13, 184, true, (.st [(0, 3), (1, 3), (2, 3), (3, 3), (4, 22), (5, 34), (8, 34), (11, 35), (12, 36)]), [.d (.int .i64 0), .d (.int .i64 0), .d (.int .i64 0), .d (.int .i64 0), .d (.sl true 1 0 []), .d (.int .i64 0), .d (.int .i64 0), .d (.sl true 3 0 []), .d (.int .i64 0), .d (.int .i64 0), .d (.sl true 3 0 []), .d (.sl true 13 0 []), .d (.sl true 15 0 [])], [.int .i64, .int .i64, .int .i64, .int .i64, .sl 1, .int .i64, .int .i64, .sl 3, .int .i64, .int .i64, .sl 3, .sl 13, .sl 15]⟩ := ⟨Try.sizeOf38, Try.isAgg38, ⟨_, Try.runUnderlying38, rfl, f_cons Try.sizeOf3 (f_cons Try.sizeOf3 (f_cons Try.sizeOf3 (f_cons Try.sizeOf3 (f_cons Try.sizeOf22 (f_cons Try.sizeOf34 (f_cons Try.sizeOf34 (f_cons Try.sizeOf35 (f_cons Try.sizeOf36 (f_end)))))))))⟩, ⟨_, Try.typeInfo38, rfl⟩, by decide, by decide, ⟨_, Try.zeroValue38, rfl, fun w C ι => z_cons z_int (z_cons z_int (z_cons z_int (z_cons z_int (z_cons z_nil (z_cons z_int (z_cons z_int (z_cons z_nil (z_cons z_int (z_cons z_int (z_cons z_nil (z_cons z_nil (z_cons z_nil (z_end)))))))))))))⟩⟩
theorem ty34 : TIok Try.prog 34 ⟨3, 40, true, (.st [(0, 3), (1, 3), (2, 32)]), [.d (.int .i64 0), .d (.int .i64 0), .d (.sl true 3 0 [])], [.int .i64, .int .i64, .sl 3]⟩ := ⟨Try.sizeOf34, Try.isAgg34, ⟨_, Try.runUnderlying34, rfl, f_cons Try.sizeOf3 (f_cons Try.sizeOf3 (f_cons Try.sizeOf32 (f_end)))⟩, ⟨_, Try.typeInfo34, rfl⟩, by decide, by decide, ⟨_, Try.zeroValue34, rfl, fun w C ι => z_cons z_int (z_cons z_int (z_cons z_nil (z_end)))⟩⟩
theorem ty32 : TIok Try.prog 32 ⟨1, 24, false, (.sl 34), [.d (.sl true 3 0 [])], [.sl 3]⟩ := ⟨Try.sizeOf32, Try.isAgg32, Try.runUnderlying32, ⟨_, Try.typeInfo32, rfl⟩, by decide, by decide, ⟨_, Try.zeroValue32, rfl, fun w C ι => z_cons z_nil (z_end)⟩⟩
theorem ty35 : TIok Try.prog 35 ⟨1, 24, false, (.sl 38), [.d (.sl true 13 0 [])], [.sl 13]⟩ := ⟨Try.sizeOf35, Try.isAgg35, Try.runUnderlying35, ⟨_, Try.typeInfo35, rfl⟩, by decide, by decide, ⟨_, Try.zeroValue35, rfl, fun w C ι => z_cons z_nil (z_end)⟩⟩
theorem ty36 : TIok Try.prog 36 ⟨1, 24, false, (.sl 169), [.d (.sl true 15 0 [])], [.sl 15]⟩ := ⟨Try.sizeOf36, Try.isAgg36, Try.runUnderlying36, ⟨_, Try.typeInfo36, rfl⟩, by decide, by decide, ⟨_, Try.zeroValue36, rfl, fun w C ι => z_cons z_nil (z_end)⟩⟩
theorem ty169 : TIok Try.prog 169 ⟨15, 216, true, (.st [(0, 3), (1, 42), (2, 38)]), [.d (.int .i64 0), .d (.sl true 1 0 []), .d (.int .i64 0), .d (.int .i64 0), .d (.int .i64 0), .d (.int .i64 0), .d (.sl true 1 0 []), .d (.int .i64 0), .d (.int .i64 0), .d (.sl true 3 0 []), .d (.int .i64 0), .d (.int .i64 0), .d (.sl true 3 0 []), .d (.sl true 13 0 []), .d (.sl true 15 0 [])], [.int .i64, .sl 1, .int .i64, .int .i64, .int .i64, .int .i64, .sl 1, .int .i64, .int .i64, .sl 3, .int .i64, .int .i64, .sl 3, .sl 13, .sl 15]⟩ := ⟨Try.sizeOf169, Try.isAgg169, ⟨_, Try.runUnderlying169, rfl, f_cons Try.sizeOf3 (f_cons Try.sizeOf42 (f_cons Try.sizeOf38 (f_end)))⟩, ⟨_, Try.typeInfo169, rfl⟩, by decide, by decide, ⟨_, Try.zeroValue169, rfl, fun w C ι => z_cons z_int (z_cons z_nil (z_cons z_int (z_cons z_int (z_cons z_int (z_cons z_int (z_cons z_nil (z_cons z_int (z_cons z_int (z_cons z_nil (z_cons z_int (z_cons z_int (z_cons z_nil (z_cons z_nil (z_cons z_nil (z_end)))))))))))))))⟩⟩
theorem ty45 : TIok Try.prog 45 ⟨5, 72, true, (.st [(0, 42), (1, 3), (2, 3), (3, 3), (4, 43)]), [.d (.sl true 1 0 []), .d (.int .i64 0), .d (.int .i64 0), .d (.int .i64 0), .d (.sl true 3 0 [])], [.sl 1, .int .i64, .int .i64, .int .i64, .sl 3]⟩ := ⟨Try.sizeOf45, Try.isAgg45, ⟨_, Try.runUnderlying45, rfl, f_cons Try.sizeOf42 (f_cons Try.sizeOf3 (f_cons Try.sizeOf3 (f_cons Try.sizeOf3 (f_cons Try.sizeOf43 (f_end)))))⟩, ⟨_, Try.typeInfo45, rfl⟩, by decide, by decide, ⟨_, Try.zeroValue45, rfl, fun w C ι => z_cons z_nil (z_cons z_int (z_cons z_int (z_cons z_int (z_cons z_nil (z_end)))))⟩⟩
theorem ty43 : TIok Try.prog 43 ⟨1, 24, false, (.sl 175), [.d (.sl true 3 0 [])], [.sl 3]⟩ := ⟨Try.sizeOf43, Try.isAgg43, Try.runUnderlying43, ⟨_, Try.typeInfo43, rfl⟩, by decide, by decide, ⟨_, Try.zeroValue43, rfl, fun w C ι => z_cons z_nil (z_end)⟩⟩
theorem ty175 : TIok Try.prog 175 ⟨3, 24, true, (.st [(0, 3), (1, 3), (2, 3)]), [.d (.int .i64 0), .d (.int .i64 0), .d (.int .i64 0)], [.int .i64, .int .i64, .int .i64]⟩ := ⟨Try.sizeOf175, Try.isAgg175, ⟨_, Try.runUnderlying175, rfl, f_cons Try.sizeOf3 (f_cons Try.sizeOf3 (f_cons Try.sizeOf3 (f_end)))⟩, ⟨_, Try.typeInfo175, rfl⟩, by decide, by decide, ⟨_, Try.zeroValue175, rfl, fun w C ι => z_cons z_int (z_cons z_int (z_cons z_int (z_end)))⟩⟩
theorem ty49 : TIok Try.prog 49 ⟨5, 72, true, (.st [(0, 42), (1, 3), (2, 3), (3, 3), (4, 47)]), [.d (.sl true 1 0 []), .d (.int .i64 0), .d (.int .i64 0), .d (.int .i64 0), .d (.sl true 3 0 [])], [.sl 1, .int .i64, .int .i64, .int .i64, .sl 3]⟩ := ⟨Try.sizeOf49, Try.isAgg49, ⟨_, Try.runUnderlying49, rfl, f_cons Try.sizeOf42 (f_cons Try.sizeOf3 (f_cons Try.sizeOf3 (f_cons Try.sizeOf3 (f_cons Try.sizeOf47 (f_end)))))⟩, ⟨_, Try.typeInfo49, rfl⟩, by decide, by decide, ⟨_, Try.zeroValue49, rfl, fun w C ι => z_cons z_nil (z_cons z_int (z_cons z_int (z_cons z_int (z_cons z_nil (z_end)))))⟩⟩
theorem ty47 : TIok Try.prog 47 ⟨1, 24, false, (.sl 173), [.d (.sl true 3 0 [])], [.sl 3]⟩ := ⟨Try.sizeOf47, Try.isAgg47, Try.runUnderlying47, ⟨_, Try.typeInfo47, rfl⟩, by decide, by decide, ⟨_, Try.zeroValue47, rfl, fun w C ι => z_cons z_nil (z_end)⟩⟩
theorem ty173 : TIok Try.prog 173 ⟨3, 24, true, (.st [(0, 3), (1, 3), (2, 3)]), [.d (.int .i64 0), .d (.int .i64 0), .d (.int .i64 0)], [.int .i64, .int .i64, .int .i64]⟩ := ⟨Try.sizeOf173, Try.isAgg173, ⟨_, Try.runUnderlying173, rfl, f_cons Try.sizeOf3 (f_cons Try.sizeOf3 (f_cons Try.sizeOf3 (f_end)))⟩, ⟨_, Try.typeInfo173, rfl⟩, by decide, by decide, ⟨_, Try.zeroValue173, rfl, fun w C ι => z_cons z_int (z_cons z_int (z_cons z_int (z_end)))⟩⟩
theorem ty78 : TIok Try.prog 78 ⟨1, 24, false, (.sl 139), [.d (.sl true 4 0 [])], [.sl 4]⟩ := ⟨Try.sizeOf78, Try.isAgg78, Try.runUnderlying78, ⟨_, Try.typeInfo78, rfl⟩, by decide, by decide, ⟨_, Try.zeroValue78, rfl, fun w C ι => z_cons z_nil (z_end)⟩⟩
theorem ty139 : TIok Try.prog 139 ⟨4, 48, true, (.st [(0, 3), (1, 25)]), [.d (.int .i64 0), .d (.int .i64 0), .d (.int .i64 0), .d (.sl true 3 0 [])], [.int .i64, .int .i64, .int .i64, .sl 3]⟩ := ⟨Try.sizeOf139, Try.isAgg139, ⟨_, Try.runUnderlying139, rfl, f_cons Try.sizeOf3 (f_cons Try.sizeOf25 (f_end))⟩, ⟨_, Try.typeInfo139, rfl⟩, by decide, by decide, ⟨_, Try.zeroValue139, rfl, fun w C ι => z_cons z_int (z_cons z_int (z_cons z_int (z_cons z_nil (z_end))))⟩⟩
theorem ty81 : TIok Try.prog 81 ⟨1, 24, false, (.sl 99), [.d (.sl true 4 0 [])], [.sl 4]⟩ := ⟨Try.sizeOf81, Try.isAgg81, Try.runUnderlying81, ⟨_, Try.typeInfo81, rfl⟩, by decide, by decide, ⟨_, Try.zeroValue81, rfl, fun w C ι => z_cons z_nil (z_end)⟩⟩
theorem ty99 : TIok Try.prog 99 ⟨4, 48, true, (.st [(0, 3), (1, 34)]), [.d (.int .i64 0), .d (.int .i64 0), .d (.int .i64 0), .d (.sl true 3 0 [])], [.int .i64, .int .i64, .int .i64, .sl 3]⟩ := ⟨Try.sizeOf99, Try.isAgg99, ⟨_, Try.runUnderlying99, rfl, f_cons Try.sizeOf3 (f_cons Try.sizeOf34 (f_end))⟩, ⟨_, Try.typeInfo99, rfl⟩, by decide, by decide, ⟨_, Try.zeroValue99, rfl, fun w C ι => z_cons z_int (z_cons z_int (z_cons z_int (z_cons z_nil (z_end))))⟩⟩
theorem ty106 : TIok Try.prog 106 ⟨1, 8, false, .other, [.undef], [.undef]⟩ := ⟨Try.sizeOf106, Try.isAgg106, trivial, ⟨_, Try.typeInfo106, rfl⟩, by decide, by decide, ⟨_, Try.zeroValue106, rfl, fun w C ι => z_cons z_un (z_end)⟩⟩
theorem ty115 : TIok Try.prog 115 ⟨1, 8, false, .other, [.undef], [.undef]⟩ := ⟨Try.sizeOf115, Try.isAgg115, trivial, ⟨_, Try.typeInfo115, rfl⟩, by decide, by decide, ⟨_, Try.zeroValue115, rfl, fun w C ι => z_cons z_un (z_end)⟩⟩
theorem ty126 : TIok Try.prog 126 ⟨1, 8, false, .other, [.undef], [.undef]⟩ := ⟨Try.sizeOf126, Try.isAgg126, trivial, ⟨_, Try.typeInfo126, rfl⟩, by decide, by decide, ⟨_, Try.zeroValue126, rfl, fun w C ι => z_cons z_un (z_end)⟩⟩
theorem ty182 : TIok Try.prog 182 ⟨3, 40, true, (.st [(0, 22), (1, 3), (2, 3)]), [.d (.sl true 1 0 []), .d (.int .i64 0), .d (.int .i64 0)], [.sl 1, .int .i64, .int .i64]⟩ := ⟨Try.sizeOf182, Try.isAgg182, ⟨_, Try.runUnderlying182, rfl, f_cons Try.sizeOf22 (f_cons Try.sizeOf3 (f_cons Try.sizeOf3 (f_end)))⟩, ⟨_, Try.typeInfo182, rfl⟩, by decide, by decide, ⟨_, Try.zeroValue182, rfl, fun w C ι => z_cons z_nil (z_cons z_int (z_cons z_int (z_end)))⟩⟩
theorem ty135 : TIok Try.prog 135 ⟨1, 8, false, .other, [.undef], [.undef]⟩ := ⟨Try.sizeOf135, Try.isAgg135, trivial, ⟨_, Try.typeInfo135, rfl⟩, by decide, by decide, ⟨_, Try.zeroValue135, rfl, fun w C ι => z_cons z_un (z_end)⟩⟩
theorem ty143 : TIok Try.prog 143 ⟨1, 8, false, .other, [.undef], [.undef]⟩ := ⟨Try.sizeOf143, Try.isAgg143, trivial, ⟨_, Try.typeInfo143, rfl⟩, by decide, by decide, ⟨_, Try.zeroValue143, rfl, fun w C ι => z_cons z_un (z_end)⟩⟩
theorem ty150 : TIok Try.prog 150 ⟨2, 32, true, (.st [(0, 81), (1, 148)]), [.d (.sl true 4 0 []), .undef], [.sl 4, .undef]⟩ := ⟨Try.sizeOf150, Try.isAgg150, ⟨_, Try.runUnderlying150, rfl, f_cons Try.sizeOf81 (f_cons Try.sizeOf148 (f_end))⟩, ⟨_, Try.typeInfo150, rfl⟩, by decide, by decide, ⟨_, Try.zeroValue150, rfl, fun w C ι => z_cons z_nil (z_cons z_un (z_end))⟩⟩
theorem ty148 : TIok Try.prog 148 ⟨1, 8, false, .other, [.undef], [.undef]⟩ := ⟨Try.sizeOf148, Try.isAgg148, trivial, ⟨_, Try.typeInfo148, rfl⟩, by decide, by decide, ⟨_, Try.zeroValue148, rfl, fun w C ι => z_cons z_un (z_end)⟩⟩
theorem ty156 : TIok Try.prog 156 ⟨1, 8, false, .other, [.undef], [.undef]⟩ := ⟨Try.sizeOf156, Try.isAgg156, trivial, ⟨_, Try.typeInfo156, rfl⟩, by decide, by decide, ⟨_, Try.zeroValue156, rfl, fun w C ι => z_cons z_un (z_end)⟩⟩
theorem ty162 : TIok Try.prog 162 ⟨1, 8, false, .other, [.undef], [.undef]⟩ := ⟨Try.sizeOf162, Try.isAgg162, trivial, ⟨_, Try.typeInfo162, rfl⟩, by decide, by decide, ⟨_, Try.zeroValue162, rfl, fun w C ι => z_cons z_un (z_end)⟩⟩
theorem ty167 : TIok Try.prog 167 ⟨1, 8, false, .other, [.undef], [.undef]⟩ := ⟨Try.sizeOf167, Try.isAgg167, trivial, ⟨_, Try.typeInfo167, rfl⟩, by decide, by decide, ⟨_, Try.zeroValue167, rfl, fun w C ι => z_cons z_un (z_end)⟩⟩
theorem ty91 : TIok Try.prog 91 ⟨1, 8, false, .other, [.undef], [.undef]⟩ := ⟨Try.sizeOf91, Try.isAgg91, trivial, ⟨_, Try.typeInfo91, rfl⟩, by decide, by decide, ⟨_, Try.zeroValue91, rfl, fun w C ι => z_cons z_un (z_end)⟩⟩
theorem ty193 : TIok Try.prog 193 ⟨1, 8, false, (.int .u64), [.d (.int .u64 0)], [.int .u64]⟩ := ⟨Try.sizeOf193, Try.isAgg193, Try.runUnderlying193, ⟨_, Try.typeInfo193, rfl⟩, by decide, by decide, ⟨_, Try.zeroValue193, rfl, fun w C ι => z_cons z_int (z_end)⟩⟩
theorem ty198 : TIok Try.prog 198 ⟨1, 8, false, (.int .i64), [.d (.int .i64 0)], [.int .i64]⟩ := ⟨Try.sizeOf198, Try.isAgg198, Try.runUnderlying198, ⟨_, Try.typeInfo198, rfl⟩, by decide, by decide, ⟨_, Try.zeroValue198, rfl, fun w C ι => z_cons z_int (z_end)⟩⟩
theorem ty205 : TIok Try.prog 205 ⟨1, 4, false, (.int .u32), [.d (.int .u32 0)], [.int .u32]⟩ := ⟨Try.sizeOf205, Try.isAgg205, Try.runUnderlying205, ⟨_, Try.typeInfo205, rfl⟩, by decide, by decide, ⟨_, Try.zeroValue205, rfl, fun w C ι => z_cons z_int (z_end)⟩⟩
theorem ty207 : TIok Try.prog 207 ⟨1, 8, false, (.int .u64), [.d (.int .u64 0)], [.int .u64]⟩ := ⟨Try.sizeOf207, Try.isAgg207, Try.runUnderlying207, ⟨_, Try.typeInfo207, rfl⟩, by decide, by decide, ⟨_, Try.zeroValue207, rfl, fun w C ι => z_cons z_int (z_end)⟩⟩
theorem ty208 : TIok Try.prog 208 ⟨1, 8, false, (.int .u64), [.d (.int .u64 0)], [.int .u64]⟩ := ⟨Try.sizeOf208, Try.isAgg208, Try.runUnderlying208, ⟨_, Try.typeInfo208, rfl⟩, by decide, by decide, ⟨_, Try.zeroValue208, rfl, fun w C ι => z_cons z_int (z_end)⟩⟩
theorem ty9 : TIok Try.prog 9 ⟨1, 16, false, .str, [.d (.str ⟨#[]⟩)], [.str]⟩ := ⟨Try.sizeOf9, Try.isAgg9, Try.runUnderlying9, ⟨_, Try.typeInfo9, rfl⟩, by decide, by decide, ⟨_, Try.zeroValue9, rfl, fun w C ι => z_cons z_str (z_end)⟩⟩
theorem ty213 : TIok Try.prog 213 ⟨1, 8, false, .other, [.undef], [.undef]⟩ := ⟨Try.sizeOf213, Try.isAgg213, trivial, ⟨_, Try.typeInfo213, rfl⟩, by decide, by decide, ⟨_, Try.zeroValue213, rfl, fun w C ι => z_cons z_un (z_end)⟩⟩
theorem ty8 : TIok Try.prog 8 ⟨4, 24, true, (.st [(0, 2), (1, 3), (2, 4), (3, 6)]), [.d (.int .i64 0), .d (.int .i64 0), .d (.bool false), .d (.int .u8 0)], [.int .i64, .int .i64, .bool, .int .u8]⟩ := ⟨Try.sizeOf8, Try.isAgg8, ⟨_, Try.runUnderlying8, rfl, f_cons Try.sizeOf2 (f_cons Try.sizeOf3 (f_cons Try.sizeOf4 (f_cons Try.sizeOf6 (f_end))))⟩, ⟨_, Try.typeInfo8, rfl⟩, by decide, by decide, ⟨_, Try.zeroValue8, rfl, fun w C ι => z_cons z_int (z_cons z_int (z_cons z_bool (z_cons z_int (z_end))))⟩⟩
theorem ty2 : TIok Try.prog 2 ⟨1, 8, false, (.int .i64), [.d (.int .i64 0)], [.int .i64]⟩ := ⟨Try.sizeOf2, Try.isAgg2, Try.runUnderlying2, ⟨_, Try.typeInfo2, rfl⟩, by decide, by decide, ⟨_, Try.zeroValue2, rfl, fun w C ι => z_cons z_int (z_end)⟩⟩
theorem ty6 : TIok Try.prog 6 ⟨1, 1, false, (.int .u8), [.d (.int .u8 0)], [.int .u8]⟩ := ⟨Try.sizeOf6, Try.isAgg6, Try.runUnderlying6, ⟨_, Try.typeInfo6, rfl⟩, by decide, by decide, ⟨_, Try.zeroValue6, rfl, fun w C ι => z_cons z_int (z_end)⟩⟩
theorem ty10 : TIok Try.prog 10 ⟨1, 16, false, .str, [.d (.str ⟨#[]⟩)], [.str]⟩ := ⟨Try.sizeOf10, Try.isAgg10, Try.runUnderlying10, ⟨_, Try.typeInfo10, rfl⟩, by decide, by decide, ⟨_, Try.zeroValue10, rfl, fun w C ι => z_cons z_str (z_end)⟩⟩
theorem ty11 : TIok Try.prog 11 ⟨1, 16, false, .str, [.d (.str ⟨#[]⟩)], [.str]⟩ := ⟨Try.sizeOf11, Try.isAgg11, Try.runUnderlying11, ⟨_, Try.typeInfo11, rfl⟩, by decide, by decide, ⟨_, Try.zeroValue11, rfl, fun w C ι => z_cons z_str (z_end)⟩⟩
theorem ty14 : TIok Try.prog 14 ⟨2, 24, true, (.st [(0, 9), (1, 12)]), [.d (.str ⟨#[]⟩), .d (.int .u64 0)], [.str, .int .u64]⟩ := ⟨Try.sizeOf14, Try.isAgg14, ⟨_, Try.runUnderlying14, rfl, f_cons Try.sizeOf9 (f_cons Try.sizeOf12 (f_end))⟩, ⟨_, Try.typeInfo14, rfl⟩, by decide, by decide, ⟨_, Try.zeroValue14, rfl, fun w C ι => z_cons z_str (z_cons z_int (z_end))⟩⟩
theorem ty12 : TIok Try.prog 12 ⟨1, 8, false, (.int .u64), [.d (.int .u64 0)], [.int .u64]⟩ := ⟨Try.sizeOf12, Try.isAgg12, Try.runUnderlying12, ⟨_, Try.typeInfo12, rfl⟩, by decide, by decide, ⟨_, Try.zeroValue12, rfl, fun w C ι => z_cons z_int (z_end)⟩⟩
theorem ty15 : TIok Try.prog 15 ⟨1, 8, false, .other, [.undef], [.undef]⟩ := ⟨Try.sizeOf15, Try.isAgg15, trivial, ⟨_, Try.typeInfo15, rfl⟩, by decide, by decide, ⟨_, Try.zeroValue15, rfl, fun w C ι => z_cons z_un (z_end)⟩⟩
theorem ty218 : TIok Try.prog 218 ⟨4, 40, true, (.st [(0, 17), (1, 17), (2, 17), (3, 9)]), [.undef, .undef, .undef, .d (.str ⟨#[]⟩)], [.undef, .undef, .undef, .str]⟩ := ⟨Try.sizeOf218, Try.isAgg218, ⟨_, Try.runUnderlying218, rfl, f_cons Try.sizeOf17 (f_cons Try.sizeOf17 (f_cons Try.sizeOf17 (f_cons Try.sizeOf9 (f_end))))⟩, ⟨_, Try.typeInfo218, rfl⟩, by decide, by decide, ⟨_, Try.zeroValue218, rfl, fun w C ι => z_cons z_un (z_cons z_un (z_cons z_un (z_cons z_str (z_end))))⟩⟩
theorem ty17 : TIok Try.prog 17 ⟨1, 8, false, .other, [.undef], [.undef]⟩ := ⟨Try.sizeOf17, Try.isAgg17, trivial, ⟨_, Try.typeInfo17, rfl⟩, by decide, by decide, ⟨_, Try.zeroValue17, rfl, fun w C ι => z_cons z_un (z_end)⟩⟩
theorem ty229 : TIok Try.prog 229 ⟨11, 48, true, (.st [(0, 12), (1, 12), (2, 205), (3, 222), (4, 5), (5, 5), (6, 223), (7, 224), (8, 225), (9, 226), (10, 227)]), [.d (.int .u64 0), .d (.int .u64 0), .d (.int .u32 0), .d (.int .u8 0), .d (.int .u8 0), .d (.int .u8 0), .d (.int .u8 0), .undef, .undef, .d (.int .i32 0), .d (.int .i32 0)], [.int .u64, .int .u64, .int .u32, .int .u8, .int .u8, .int .u8, .int .u8, .undef, .undef, .int .i32, .int .i32]⟩ := ⟨Try.sizeOf229, Try.isAgg229, ⟨_, Try.runUnderlying229, rfl, f_cons Try.sizeOf12 (f_cons Try.sizeOf12 (f_cons Try.sizeOf205 (f_cons Try.sizeOf222 (f_cons Try.sizeOf5 (f_cons Try.sizeOf5 (f_cons Try.sizeOf223 (f_cons Try.sizeOf224 (f_cons Try.sizeOf225 (f_cons Try.sizeOf226 (f_cons Try.sizeOf227 (f_end)))))))))))⟩, ⟨_, Try.typeInfo229, rfl⟩, by decide, by decide, ⟨_, Try.zeroValue229, rfl, fun w C ι => z_cons z_int (z_cons z_int (z_cons z_int (z_cons z_int (z_cons z_int (z_cons z_int (z_cons z_int (z_cons z_un (z_cons z_un (z_cons z_int (z_cons z_int (z_end)))))))))))⟩⟩
theorem ty222 : TIok Try.prog 222 ⟨1, 1, false, (.int .u8), [.d (.int .u8 0)], [.int .u8]⟩ := ⟨Try.sizeOf222, Try.isAgg222, Try.runUnderlying222, ⟨_, Try.typeInfo222, rfl⟩, by decide, by decide, ⟨_, Try.zeroValue222, rfl, fun w C ι => z_cons z_int (z_end)⟩⟩
theorem ty223 : TIok Try.prog 223 ⟨1, 1, false, (.int .u8), [.d (.int .u8 0)], [.int .u8]⟩ := ⟨Try.sizeOf223, Try.isAgg223, Try.runUnderlying223, ⟨_, Try.typeInfo223, rfl⟩, by decide, by decide, ⟨_, Try.zeroValue223, rfl, fun w C ι => z_cons z_int (z_end)⟩⟩
theorem ty224 : TIok Try.prog 224 ⟨1, 8, false, .other, [.undef], [.undef]⟩ := ⟨Try.sizeOf224, Try.isAgg224, trivial, ⟨_, Try.typeInfo224, rfl⟩, by decide, by decide, ⟨_, Try.zeroValue224, rfl, fun w C ι => z_cons z_un (z_end)⟩⟩
theorem ty225 : TIok Try.prog 225 ⟨1, 8, false, .other, [.undef], [.undef]⟩ := ⟨Try.sizeOf225, Try.isAgg225, trivial, ⟨_, Try.typeInfo225, rfl⟩, by decide, by decide, ⟨_, Try.zeroValue225, rfl, fun w C ι => z_cons z_un (z_end)⟩⟩
theorem ty226 : TIok Try.prog 226 ⟨1, 4, false, (.int .i32), [.d (.int .i32 0)], [.int .i32]⟩ := ⟨Try.sizeOf226, Try.isAgg226, Try.runUnderlying226, ⟨_, Try.typeInfo226, rfl⟩, by decide, by decide, ⟨_, Try.zeroValue226, rfl, fun w C ι => z_cons z_int (z_end)⟩⟩
theorem ty227 : TIok Try.prog 227 ⟨1, 4, false, (.int .i32), [.d (.int .i32 0)], [.int .i32]⟩ := ⟨Try.sizeOf227, Try.isAgg227, Try.runUnderlying227, ⟨_, Try.typeInfo227, rfl⟩, by decide, by decide, ⟨_, Try.zeroValue227, rfl, fun w C ι => z_cons z_int (z_end)⟩⟩
theorem ty16 : TIok Try.prog 16 ⟨1, 8, false, .other, [.undef], [.undef]⟩ := ⟨Try.sizeOf16, Try.isAgg16, trivial, ⟨_, Try.typeInfo16, rfl⟩, by decide, by decide, ⟨_, Try.zeroValue16, rfl, fun w C ι => z_cons z_un (z_end)⟩⟩
theorem ty19 : TIok Try.prog 19 ⟨1, 8, true, (.st [(0, 17)]), [.undef], [.undef]⟩ := ⟨Try.sizeOf19, Try.isAgg19, ⟨_, Try.runUnderlying19, rfl, f_cons Try.sizeOf17 (f_end)⟩, ⟨_, Try.typeInfo19, rfl⟩, by decide, by decide, ⟨_, Try.zeroValue19, rfl, fun w C ι => z_cons z_un (z_end)⟩⟩
theorem ty232 : TIok Try.prog 232 ⟨1, 8, false, .other, [.undef], [.undef]⟩ := ⟨Try.sizeOf232, Try.isAgg232, trivial, ⟨_, Try.typeInfo232, rfl⟩, by decide, by decide, ⟨_, Try.zeroValue232, rfl, fun w C ι => z_cons z_un (z_end)⟩⟩
theorem fn3 : FnOk Try.prog 3 I3 := ⟨Try.call3, Try.func3, by kernel_rfl, by kernel_rfl, by kernel_rfl⟩
theorem fn14 : FnOk Try.prog 14 I14 := ⟨Try.call14, Try.func14, by kernel_rfl, by kernel_rfl, by kernel_rfl⟩
theorem fn15 : FnOk Try.prog 15 I15 := ⟨Try.call15, Try.func15, by kernel_rfl, by kernel_rfl, by kernel_rfl⟩
theorem fn16 : FnOk Try.prog 16 I16 := ⟨Try.call16, Try.func16, by kernel_rfl, by kernel_rfl, by kernel_rfl⟩
theorem fn17 : FnOk Try.prog 17 I17 := ⟨Try.call17, Try.func17, by kernel_rfl, by kernel_rfl, by kernel_rfl⟩
theorem fn18 : FnOk Try.prog 18 I18 := ⟨Try.call18, Try.func18, by kernel_rfl, by kernel_rfl, by kernel_rfl⟩
theorem fn36 : FnOk Try.prog 36 I36 := ⟨Try.call36, Try.func36, by kernel_rfl, by kernel_rfl, by kernel_rfl⟩
theorem fn37 : FnOk Try.prog 37 I37 := ⟨Try.call37, Try.func37, by kernel_rfl, by kernel_rfl, by kernel_rfl⟩
theorem fn39 : FnOk Try.prog 39 I39 := ⟨Try.call39, Try.func39, by kernel_rfl, by kernel_rfl, by kernel_rfl⟩
theorem fn40 : FnOk Try.prog 40 I40 := ⟨Try.call40, Try.func40, by kernel_rfl, by kernel_rfl, by kernel_rfl⟩
theorem fn42 : FnOk Try.prog 42 I42 := ⟨Try.call42, Try.func42, by kernel_rfl, by kernel_rfl, by kernel_rfl⟩
theorem fn43 : FnOk Try.prog 43 I43 := ⟨Try.call43, Try.func43, by kernel_rfl, by kernel_rfl, by kernel_rfl⟩
theorem fn66 : FnOk Try.prog 66 I66 := ⟨Try.call66, Try.func66, by kernel_rfl, by kernel_rfl, by kernel_rfl⟩
theorem fn67 : FnOk Try.prog 67 I67 := ⟨Try.call67, Try.func67, by kernel_rfl, by kernel_rfl, by kernel_rfl⟩
theorem fn68 : FnOk Try.prog 68 I68 := ⟨Try.call68, Try.func68, by kernel_rfl, by kernel_rfl, by kernel_rfl⟩
theorem fn69 : FnOk Try.prog 69 I69 := ⟨Try.call69, Try.func69, by kernel_rfl, by kernel_rfl, by kernel_rfl⟩
theorem fn70 : FnOk Try.prog 70 I70 := ⟨Try.call70, Try.func70, by kernel_rfl, by kernel_rfl, by kernel_rfl⟩
theorem fn71 : FnOk Try.prog 71 I71 := ⟨Try.call71, Try.func71, by kernel_rfl, by kernel_rfl, by kernel_rfl⟩
theorem fn72 : FnOk Try.prog 72 I72 := ⟨Try.call72, Try.func72, by kernel_rfl, by kernel_rfl, by kernel_rfl⟩
theorem fn73 : FnOk Try.prog 73 I73 := ⟨Try.call73, Try.func73, by kernel_rfl, by kernel_rfl, by kernel_rfl⟩
theorem fn74 : FnOk Try.prog 74 I74 := ⟨Try.call74, Try.func74, by kernel_rfl, by kernel_rfl, by kernel_rfl⟩
theorem fn75 : FnOk Try.prog 75 I75 := ⟨Try.call75, Try.func75, by kernel_rfl, by kernel_rfl, by kernel_rfl⟩
theorem fn76 : FnOk Try.prog 76 I76 := ⟨Try.call76, Try.func76, by kernel_rfl, by kernel_rfl, by kernel_rfl⟩
theorem fn77 : FnOk Try.prog 77 I77 := ⟨Try.call77, Try.func77, by kernel_rfl, by kernel_rfl, by kernel_rfl⟩
theorem fn81 : FnOk Try.prog 81 I81 := ⟨Try.call81, Try.func81, by kernel_rfl, by kernel_rfl, by kernel_rfl⟩
theorem fn85 : FnOk Try.prog 85 I85 := ⟨Try.call85, Try.func85, by kernel_rfl, by kernel_rfl, by kernel_rfl⟩
theorem fn132 : FnOk Try.prog 132 I132 := ⟨Try.call132, Try.func132, by kernel_rfl, by kernel_rfl, by kernel_rfl⟩
theorem fn133 : FnOk Try.prog 133 I133 := ⟨Try.call133, Try.func133, by kernel_rfl, by kernel_rfl, by kernel_rfl⟩
theorem fn134 : FnOk Try.prog 134 I134 := ⟨Try.call134, Try.func134, by kernel_rfl, by kernel_rfl, by kernel_rfl⟩
theorem fn135 : FnOk Try.prog 135 I135 := ⟨Try.call135, Try.func135, by kernel_rfl, by kernel_rfl, by kernel_rfl⟩
theorem cxOk : CxOk Try.prog cx := cxOk_of ⟨ty29, ty3, ty22, ty5, ty25, ty23, ty26, ty27, ty165, ty42, ty4, ty38, ty34, ty32, ty35, ty36, ty169, ty45, ty43, ty175, ty49, ty47, ty173, ty78, ty139, ty81, ty99, ty106, ty115, ty126, ty182, ty135, ty143, ty150, ty148, ty156, ty162, ty167, ty91, ty193, ty198, ty205, ty207, ty208, ty9, ty213, ty8, ty2, ty6, ty10, ty11, ty14, ty12, ty15, ty218, ty17, ty229, ty222, ty223, ty224, ty225, ty226, ty227, ty16, ty19, ty232, trivial⟩ ⟨fn3, fn14, fn15, fn16, fn17, fn18, fn36, fn37, fn39, fn40, fn42, fn43, fn66, fn67, fn68, fn69, fn70, fn71, fn72, fn73, fn74, fn75, fn76, fn77, fn81, fn85, fn132, fn133, fn134, fn135, trivial⟩ (by kernel_rfl)
end Go.Ev.Q
