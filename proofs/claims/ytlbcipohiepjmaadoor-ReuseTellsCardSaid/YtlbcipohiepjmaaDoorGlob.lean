import Derived.Test.YtlbcipohiepjmaaDoorProg
import Derived.Lib.LaidTab
import Derived.Lib.ItoaNum
set_option linter.unusedVariables false
set_option linter.unusedSimpArgs false
namespace Go.Proofs.YtlbcipohiepjmaaDoor
abbrev powVar:String:= "internal/strconv.uint64pow10"
def GB (b:Nat):Prop:=Tryd.prog.globalNamed powVar=some b
def GI (w:World):Prop:=Lib.TabIs Tryd.prog w powVar .u64 Lib.pow10Tab
theorem GI.pow {w:World} (h:GI w):Lib.TabIs Tryd.prog w powVar .u64 Lib.pow10Tab:=h
theorem var_keep {w w':World} {name:String} (hk:∀b,Tryd.prog.globalNamed name=some b→w'.heap[b]? =w.heap[b]?):w'.var? Tryd.prog name=w.var? Tryd.prog name:=by
 unfold World.var?;cases hg:Tryd.prog.globalNamed name with
 |none=>rfl
 |some g=>simp only[Option.bind_some];rw[hk g hg]
theorem GI.keep {w w':World} (h:GI w) (hk:∀b,GB b→w'.heap[b]? =w.heap[b]?):GI w':=(var_keep hk).trans h
theorem GI.lt {w:World} (h:GI w) {b:Nat} (hb:GB b):b<w.heap.size:=by
 unfold GI Lib.TabIs World.var? at h;rw[show Tryd.prog.globalNamed powVar=some b from hb]at h;simp only[Option.bind_some]at h;rcases hh:w.heap[b]? with _|o
 ·rw[hh]at h;cases h
 ·exact(Array.getElem?_eq_some_iff.1 hh).1
end Go.Proofs.YtlbcipohiepjmaaDoor
