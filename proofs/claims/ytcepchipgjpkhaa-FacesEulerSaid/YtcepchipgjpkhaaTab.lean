/- The table of the translated functions. No claim by itself. -/
import Derived.KernelRfl
import Derived.Test.YtcepchipgjpkhaaE56
import Derived.Test.YtcepchipgjpkhaaT0
import Derived.Test.YtcepchipgjpkhaaT1
namespace Go.Proofs.Ytcepchipgjpkhaa
open Go Go.AI
def tab : Tr AFunc := (.node (.node (.node (.node (.node (.node (.node .leaf (some A63) .leaf) (some A31) .leaf) none .leaf) (some A7) (.node .leaf (some A23) (.node (.node .leaf (some A87) .leaf) none .leaf))) (some A3) (.node (.node (.node .leaf (some A35) .leaf) (some A19) .leaf) none (.node .leaf (some A27) (.node (.node .leaf (some A91) .leaf) (some A59) .leaf)))) none (.node (.node (.node (.node .leaf (some A33) .leaf) (some A17) (.node .leaf none (.node .leaf (some A113) .leaf))) (some A9) (.node .leaf (some A25) .leaf)) (some A5) (.node (.node .leaf (some A21) .leaf) none (.node .leaf (some A29) (.node .leaf (some A61) .leaf))))) none (.node (.node (.node (.node (.node .leaf (some A32) .leaf) none .leaf) (some A8) (.node .leaf (some A24) (.node (.node .leaf (some A88) .leaf) (some A56) .leaf))) (some A4) (.node (.node .leaf (some A20) .leaf) none (.node .leaf (some A28) (.node (.node .leaf (some A92) .leaf) (some A60) .leaf)))) none (.node (.node (.node (.node .leaf (some A34) .leaf) (some A18) (.node .leaf none (.node .leaf (some A114) .leaf))) none (.node .leaf (some A26) (.node .leaf (some A58) .leaf))) (some A6) (.node (.node .leaf (some A22) .leaf) none .leaf))))
def ents : List (Nat × AFunc) := [(17, A17), (58, A58), (63, A63), (114, A114), (91, A91), (56, A56), (20, A20), (87, A87), (113, A113), (88, A88), (92, A92), (21, A21), (22, A22), (23, A23), (26, A26), (32, A32), (29, A29), (33, A33), (18, A18), (19, A19), (59, A59), (25, A25), (60, A60), (27, A27), (24, A24), (61, A61), (28, A28), (3, A3), (31, A31), (34, A34), (4, A4), (5, A5), (6, A6), (7, A7), (35, A35), (8, A8), (9, A9)]
theorem tab_eq : tab = buildT ents := by kernel_rfl
theorem ents_ok : AllOk Try.prog ents := ⟨ok17, ok58, ok63, ok114, ok91, ok56, ok20, ok87, ok113, ok88, ok92, ok21, ok22, ok23, ok26, ok32, ok29, ok33, ok18, ok19, ok59, ok25, ok60, ok27, ok24, ok61, ok28, ok3, ok31, ok34, ok4, ok5, ok6, ok7, ok35, ok8, ok9, trivial⟩
def FT (f : Nat) : Option FnD := (tab.get f).map .code
theorem FT_ok {G : World → Prop} : TableOk Try.prog G FT := table_ok tab_eq ents_ok
end Go.Proofs.Ytcepchipgjpkhaa
