import Derived.Test.YtjpldhjgehoffaaGreatDoorProg
import Derived.Lib.LaidTab
import Derived.Lib.ItoaNum
namespace Go.Proofs.YtjpldhjgehoffaaGreatDoor
set_option linter.unusedVariables false
set_option linter.unusedSimpArgs false
abbrev powVar:String:= "internal/strconv.uint64pow10"
abbrev synVar:String:= "strconv.ErrSyntax"
abbrev rngVar:String:= "strconv.ErrRange"
def GB (b:Nat):Prop:=Tryz.prog.globalNamed powVar=some b∨Tryz.prog.globalNamed synVar=some b∨Tryz.prog.globalNamed rngVar=some b
structure GI (w:World):Prop where
 pow:Lib.TabIs Tryz.prog w powVar .u64 Lib.pow10Tab
 syn:∃tp p,w.var? Tryz.prog synVar=some #[.iface tp p]
 rng:∃tp p,w.var? Tryz.prog rngVar=some #[.iface tp p]
theorem var_keep {w w':World} {name:String} (hk:∀b,Tryz.prog.globalNamed name=some b→w'.heap[b]? =w.heap[b]?):w'.var? Tryz.prog name=w.var? Tryz.prog name:=by
 unfold World.var?;cases hg:Tryz.prog.globalNamed name with
 |none=>rfl
 |some g=>simp only[Option.bind_some];rw[hk g hg]
theorem var_lt {w:World} {name:String} {x:Array Value} {b:Nat} (h:w.var? Tryz.prog name=some x) (hb:Tryz.prog.globalNamed name=some b):b<w.heap.size:=by
 unfold World.var? at h;rw[hb]at h;simp only[Option.bind_some]at h;rcases hh:w.heap[b]? with _|o
 ·rw[hh]at h;cases h
 ·exact(Array.getElem?_eq_some_iff.1 hh).1
theorem GI.keep {w w':World} (h:GI w) (hk:∀b,GB b→w'.heap[b]? =w.heap[b]?):GI w':=by
 obtain⟨h1,⟨t2,p2,h2⟩,t3,p3,h3⟩:=h;exact⟨(var_keep fun b hb=>hk b (.inl hb)).trans h1,⟨t2,p2,(var_keep fun b hb=>hk b (.inr (.inl hb))).trans h2⟩,t3,p3,(var_keep fun b hb=>hk b (.inr (.inr hb))).trans h3⟩
theorem GI.lt {w:World} (h:GI w) {b:Nat} (hb:GB b):b<w.heap.size:=by
 obtain⟨h1,⟨t2,p2,h2⟩,t3,p3,h3⟩:=h;rcases hb with hb|hb|hb
 ·exact var_lt h1 hb
 ·exact var_lt h2 hb
 ·exact var_lt h3 hb
end Go.Proofs.YtjpldhjgehoffaaGreatDoor
