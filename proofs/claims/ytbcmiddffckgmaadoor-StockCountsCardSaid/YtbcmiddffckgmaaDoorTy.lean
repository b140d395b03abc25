/- The abstract machine: facts about the types of the seat's program, and the operations' rules at them. -/
import Derived.Test.YtbcmiddffckgmaaDoorAm20
import Derived.Test.YtbcmiddffckgmaaDoorProg
import Derived.KernelRfl
namespace Go.Proofs.YtbcmiddffckgmaaDoor.Am
open Go
noncomputable abbrev PP : Program := Tryd.prog
theorem tsz_3 : tsz PP 3 = (some 1) := by kernel_rfl
theorem tag_3 : tagg PP 3 = (some false) := by kernel_rfl
theorem ld_3 {H d i u off hi} : loadP PP H 3 (.ref d i u off hi) = (getO H d i).bind fun o => if o.lo ≤ u ∧ u ≤ o.ver ∧ off + 1 ≤ hi ∧ hi ≤ o.cells.length then o.cells[off]? else none := loadP1 (And.intro tsz_3 tag_3)
theorem ldt_3 {H cs} : loadP PP H 3 (.tptr cs) = cs[0]? := loadP1 (And.intro tsz_3 tag_3)
theorem tsz_4 : tsz PP 4 = (some 1) := by kernel_rfl
theorem tag_4 : tagg PP 4 = (some false) := by kernel_rfl
theorem ld_4 {H d i u off hi} : loadP PP H 4 (.ref d i u off hi) = (getO H d i).bind fun o => if o.lo ≤ u ∧ u ≤ o.ver ∧ off + 1 ≤ hi ∧ hi ≤ o.cells.length then o.cells[off]? else none := loadP1 (And.intro tsz_4 tag_4)
theorem ldt_4 {H cs} : loadP PP H 4 (.tptr cs) = cs[0]? := loadP1 (And.intro tsz_4 tag_4)
theorem tsz_5 : tsz PP 5 = (some 1) := by kernel_rfl
theorem tag_5 : tagg PP 5 = (some false) := by kernel_rfl
theorem ld_5 {H d i u off hi} : loadP PP H 5 (.ref d i u off hi) = (getO H d i).bind fun o => if o.lo ≤ u ∧ u ≤ o.ver ∧ off + 1 ≤ hi ∧ hi ≤ o.cells.length then o.cells[off]? else none := loadP1 (And.intro tsz_5 tag_5)
theorem ldt_5 {H cs} : loadP PP H 5 (.tptr cs) = cs[0]? := loadP1 (And.intro tsz_5 tag_5)
theorem tsz_9 : tsz PP 9 = (some 1) := by kernel_rfl
theorem tag_9 : tagg PP 9 = (some false) := by kernel_rfl
theorem ld_9 {H d i u off hi} : loadP PP H 9 (.ref d i u off hi) = (getO H d i).bind fun o => if o.lo ≤ u ∧ u ≤ o.ver ∧ off + 1 ≤ hi ∧ hi ≤ o.cells.length then o.cells[off]? else none := loadP1 (And.intro tsz_9 tag_9)
theorem ldt_9 {H cs} : loadP PP H 9 (.tptr cs) = cs[0]? := loadP1 (And.intro tsz_9 tag_9)
theorem tsz_21 : tsz PP 21 = (some 1) := by kernel_rfl
theorem tag_21 : tagg PP 21 = (some false) := by kernel_rfl
theorem ld_21 {H d i u off hi} : loadP PP H 21 (.ref d i u off hi) = (getO H d i).bind fun o => if o.lo ≤ u ∧ u ≤ o.ver ∧ off + 1 ≤ hi ∧ hi ≤ o.cells.length then o.cells[off]? else none := loadP1 (And.intro tsz_21 tag_21)
theorem ldt_21 {H cs} : loadP PP H 21 (.tptr cs) = cs[0]? := loadP1 (And.intro tsz_21 tag_21)
theorem tsz_22 : tsz PP 22 = (some 1) := by kernel_rfl
theorem tag_22 : tagg PP 22 = (some false) := by kernel_rfl
theorem ld_22 {H d i u off hi} : loadP PP H 22 (.ref d i u off hi) = (getO H d i).bind fun o => if o.lo ≤ u ∧ u ≤ o.ver ∧ off + 1 ≤ hi ∧ hi ≤ o.cells.length then o.cells[off]? else none := loadP1 (And.intro tsz_22 tag_22)
theorem ldt_22 {H cs} : loadP PP H 22 (.tptr cs) = cs[0]? := loadP1 (And.intro tsz_22 tag_22)
theorem tsz_24 : tsz PP 24 = (some 2) := by kernel_rfl
theorem tag_24 : tagg PP 24 = (some true) := by kernel_rfl
theorem lda_24 {H d i u off hi} : loadP PP H 24 (.ref d i u off hi) = (getO H d i).bind fun o => if o.lo ≤ u ∧ u ≤ o.ver ∧ off + 2 ≤ hi ∧ hi ≤ o.cells.length then some (.agg ((o.cells.drop off).take 2)) else none := loadA_ref (And.intro tsz_24 tag_24)
theorem ldb_24 {H cs} : loadP PP H 24 (.tptr cs) = if 2 ≤ cs.length then some (.agg (cs.take 2)) else none := loadA_tptr (And.intro tsz_24 tag_24)
theorem tsz_26 : tsz PP 26 = (some 1) := by kernel_rfl
theorem tag_26 : tagg PP 26 = (some false) := by kernel_rfl
theorem ld_26 {H d i u off hi} : loadP PP H 26 (.ref d i u off hi) = (getO H d i).bind fun o => if o.lo ≤ u ∧ u ≤ o.ver ∧ off + 1 ≤ hi ∧ hi ≤ o.cells.length then o.cells[off]? else none := loadP1 (And.intro tsz_26 tag_26)
theorem ldt_26 {H cs} : loadP PP H 26 (.tptr cs) = cs[0]? := loadP1 (And.intro tsz_26 tag_26)
theorem tsz_28 : tsz PP 28 = (some 2) := by kernel_rfl
theorem tag_28 : tagg PP 28 = (some true) := by kernel_rfl
theorem lda_28 {H d i u off hi} : loadP PP H 28 (.ref d i u off hi) = (getO H d i).bind fun o => if o.lo ≤ u ∧ u ≤ o.ver ∧ off + 2 ≤ hi ∧ hi ≤ o.cells.length then some (.agg ((o.cells.drop off).take 2)) else none := loadA_ref (And.intro tsz_28 tag_28)
theorem ldb_28 {H cs} : loadP PP H 28 (.tptr cs) = if 2 ≤ cs.length then some (.agg (cs.take 2)) else none := loadA_tptr (And.intro tsz_28 tag_28)
theorem tsz_31 : tsz PP 31 = (some 1) := by kernel_rfl
theorem tag_31 : tagg PP 31 = (some false) := by kernel_rfl
theorem ld_31 {H d i u off hi} : loadP PP H 31 (.ref d i u off hi) = (getO H d i).bind fun o => if o.lo ≤ u ∧ u ≤ o.ver ∧ off + 1 ≤ hi ∧ hi ≤ o.cells.length then o.cells[off]? else none := loadP1 (And.intro tsz_31 tag_31)
theorem ldt_31 {H cs} : loadP PP H 31 (.tptr cs) = cs[0]? := loadP1 (And.intro tsz_31 tag_31)
theorem tsz_66 : tsz PP 66 = (some 4) := by kernel_rfl
theorem tag_66 : tagg PP 66 = (some true) := by kernel_rfl
theorem lda_66 {H d i u off hi} : loadP PP H 66 (.ref d i u off hi) = (getO H d i).bind fun o => if o.lo ≤ u ∧ u ≤ o.ver ∧ off + 4 ≤ hi ∧ hi ≤ o.cells.length then some (.agg ((o.cells.drop off).take 4)) else none := loadA_ref (And.intro tsz_66 tag_66)
theorem ldb_66 {H cs} : loadP PP H 66 (.tptr cs) = if 4 ≤ cs.length then some (.agg (cs.take 4)) else none := loadA_tptr (And.intro tsz_66 tag_66)
theorem tsz_78 : tsz PP 78 = (some 4) := by kernel_rfl
theorem tag_78 : tagg PP 78 = (some true) := by kernel_rfl
theorem lda_78 {H d i u off hi} : loadP PP H 78 (.ref d i u off hi) = (getO H d i).bind fun o => if o.lo ≤ u ∧ u ≤ o.ver ∧ off + 4 ≤ hi ∧ hi ≤ o.cells.length then some (.agg ((o.cells.drop off).take 4)) else none := loadA_ref (And.intro tsz_78 tag_78)
theorem ldb_78 {H cs} : loadP PP H 78 (.tptr cs) = if 4 ≤ cs.length then some (.agg (cs.take 4)) else none := loadA_tptr (And.intro tsz_78 tag_78)
theorem tsz_79 : tsz PP 79 = (some 1) := by kernel_rfl
theorem tag_79 : tagg PP 79 = (some false) := by kernel_rfl
theorem ld_79 {H d i u off hi} : loadP PP H 79 (.ref d i u off hi) = (getO H d i).bind fun o => if o.lo ≤ u ∧ u ≤ o.ver ∧ off + 1 ≤ hi ∧ hi ≤ o.cells.length then o.cells[off]? else none := loadP1 (And.intro tsz_79 tag_79)
theorem ldt_79 {H cs} : loadP PP H 79 (.tptr cs) = cs[0]? := loadP1 (And.intro tsz_79 tag_79)
theorem tsz_106 : tsz PP 106 = (some 4) := by kernel_rfl
theorem tag_106 : tagg PP 106 = (some true) := by kernel_rfl
theorem lda_106 {H d i u off hi} : loadP PP H 106 (.ref d i u off hi) = (getO H d i).bind fun o => if o.lo ≤ u ∧ u ≤ o.ver ∧ off + 4 ≤ hi ∧ hi ≤ o.cells.length then some (.agg ((o.cells.drop off).take 4)) else none := loadA_ref (And.intro tsz_106 tag_106)
theorem ldb_106 {H cs} : loadP PP H 106 (.tptr cs) = if 4 ≤ cs.length then some (.agg (cs.take 4)) else none := loadA_tptr (And.intro tsz_106 tag_106)
theorem tsz_107 : tsz PP 107 = (some 4) := by kernel_rfl
theorem tag_107 : tagg PP 107 = (some true) := by kernel_rfl
theorem lda_107 {H d i u off hi} : loadP PP H 107 (.ref d i u off hi) = (getO H d i).bind fun o => if o.lo ≤ u ∧ u ≤ o.ver ∧ off + 4 ≤ hi ∧ hi ≤ o.cells.length then some (.agg ((o.cells.drop off).take 4)) else none := loadA_ref (And.intro tsz_107 tag_107)
theorem ldb_107 {H cs} : loadP PP H 107 (.tptr cs) = if 4 ≤ cs.length then some (.agg (cs.take 4)) else none := loadA_tptr (And.intro tsz_107 tag_107)
theorem tsz_119 : tsz PP 119 = (some 1) := by kernel_rfl
theorem tag_119 : tagg PP 119 = (some false) := by kernel_rfl
theorem ld_119 {H d i u off hi} : loadP PP H 119 (.ref d i u off hi) = (getO H d i).bind fun o => if o.lo ≤ u ∧ u ≤ o.ver ∧ off + 1 ≤ hi ∧ hi ≤ o.cells.length then o.cells[off]? else none := loadP1 (And.intro tsz_119 tag_119)
theorem ldt_119 {H cs} : loadP PP H 119 (.tptr cs) = cs[0]? := loadP1 (And.intro tsz_119 tag_119)
theorem tsz_125 : tsz PP 125 = (some 256) := by kernel_rfl
theorem tag_125 : tagg PP 125 = (some true) := by kernel_rfl
theorem lda_125 {H d i u off hi} : loadP PP H 125 (.ref d i u off hi) = (getO H d i).bind fun o => if o.lo ≤ u ∧ u ≤ o.ver ∧ off + 256 ≤ hi ∧ hi ≤ o.cells.length then some (.agg ((o.cells.drop off).take 256)) else none := loadA_ref (And.intro tsz_125 tag_125)
theorem ldb_125 {H cs} : loadP PP H 125 (.tptr cs) = if 256 ≤ cs.length then some (.agg (cs.take 256)) else none := loadA_tptr (And.intro tsz_125 tag_125)
theorem tsz_146 : tsz PP 146 = (some 2) := by kernel_rfl
theorem tag_146 : tagg PP 146 = (some true) := by kernel_rfl
theorem lda_146 {H d i u off hi} : loadP PP H 146 (.ref d i u off hi) = (getO H d i).bind fun o => if o.lo ≤ u ∧ u ≤ o.ver ∧ off + 2 ≤ hi ∧ hi ≤ o.cells.length then some (.agg ((o.cells.drop off).take 2)) else none := loadA_ref (And.intro tsz_146 tag_146)
theorem ldb_146 {H cs} : loadP PP H 146 (.tptr cs) = if 2 ≤ cs.length then some (.agg (cs.take 2)) else none := loadA_tptr (And.intro tsz_146 tag_146)
theorem fo_106_0 : fldOff PP 106 0 = (some 0) := by kernel_rfl
theorem fa_106_0 {d i u off hi} : fieldAddrP PP 106 (.ref d i u off hi) 0 = some (.ref d i u (off + 0) hi) := fieldAddr_ref fo_106_0
theorem fb_106_0 {cs} : fieldAddrP PP 106 (.tptr cs) 0 = if 0 ≤ cs.length then some (.tptr (cs.drop 0)) else none := fieldAddr_tptr fo_106_0
theorem fo_106_1 : fldOff PP 106 1 = (some 1) := by kernel_rfl
theorem fa_106_1 {d i u off hi} : fieldAddrP PP 106 (.ref d i u off hi) 1 = some (.ref d i u (off + 1) hi) := fieldAddr_ref fo_106_1
theorem fb_106_1 {cs} : fieldAddrP PP 106 (.tptr cs) 1 = if 1 ≤ cs.length then some (.tptr (cs.drop 1)) else none := fieldAddr_tptr fo_106_1
theorem fo_106_2 : fldOff PP 106 2 = (some 2) := by kernel_rfl
theorem fa_106_2 {d i u off hi} : fieldAddrP PP 106 (.ref d i u off hi) 2 = some (.ref d i u (off + 2) hi) := fieldAddr_ref fo_106_2
theorem fb_106_2 {cs} : fieldAddrP PP 106 (.tptr cs) 2 = if 2 ≤ cs.length then some (.tptr (cs.drop 2)) else none := fieldAddr_tptr fo_106_2
theorem fo_106_3 : fldOff PP 106 3 = (some 3) := by kernel_rfl
theorem fa_106_3 {d i u off hi} : fieldAddrP PP 106 (.ref d i u off hi) 3 = some (.ref d i u (off + 3) hi) := fieldAddr_ref fo_106_3
theorem fb_106_3 {cs} : fieldAddrP PP 106 (.tptr cs) 3 = if 3 ≤ cs.length then some (.tptr (cs.drop 3)) else none := fieldAddr_tptr fo_106_3
theorem fo_107_0 : fldOff PP 107 0 = (some 0) := by kernel_rfl
theorem fa_107_0 {d i u off hi} : fieldAddrP PP 107 (.ref d i u off hi) 0 = some (.ref d i u (off + 0) hi) := fieldAddr_ref fo_107_0
theorem fb_107_0 {cs} : fieldAddrP PP 107 (.tptr cs) 0 = if 0 ≤ cs.length then some (.tptr (cs.drop 0)) else none := fieldAddr_tptr fo_107_0
theorem fo_107_1 : fldOff PP 107 1 = (some 1) := by kernel_rfl
theorem fa_107_1 {d i u off hi} : fieldAddrP PP 107 (.ref d i u off hi) 1 = some (.ref d i u (off + 1) hi) := fieldAddr_ref fo_107_1
theorem fb_107_1 {cs} : fieldAddrP PP 107 (.tptr cs) 1 = if 1 ≤ cs.length then some (.tptr (cs.drop 1)) else none := fieldAddr_tptr fo_107_1
theorem fo_107_2 : fldOff PP 107 2 = (some 2) := by kernel_rfl
theorem fa_107_2 {d i u off hi} : fieldAddrP PP 107 (.ref d i u off hi) 2 = some (.ref d i u (off + 2) hi) := fieldAddr_ref fo_107_2
theorem fb_107_2 {cs} : fieldAddrP PP 107 (.tptr cs) 2 = if 2 ≤ cs.length then some (.tptr (cs.drop 2)) else none := fieldAddr_tptr fo_107_2
theorem fo_107_3 : fldOff PP 107 3 = (some 3) := by kernel_rfl
theorem fa_107_3 {d i u off hi} : fieldAddrP PP 107 (.ref d i u off hi) 3 = some (.ref d i u (off + 3) hi) := fieldAddr_ref fo_107_3
theorem fb_107_3 {cs} : fieldAddrP PP 107 (.tptr cs) 3 = if 3 ≤ cs.length then some (.tptr (cs.drop 3)) else none := fieldAddr_tptr fo_107_3
theorem fo_121_1 : fldOff PP 121 1 = (some 1) := by kernel_rfl
theorem fa_121_1 {d i u off hi} : fieldAddrP PP 121 (.ref d i u off hi) 1 = some (.ref d i u (off + 1) hi) := fieldAddr_ref fo_121_1
theorem fb_121_1 {cs} : fieldAddrP PP 121 (.tptr cs) 1 = if 1 ≤ cs.length then some (.tptr (cs.drop 1)) else none := fieldAddr_tptr fo_121_1
theorem fo_121_2 : fldOff PP 121 2 = (some 2) := by kernel_rfl
theorem fa_121_2 {d i u off hi} : fieldAddrP PP 121 (.ref d i u off hi) 2 = some (.ref d i u (off + 2) hi) := fieldAddr_ref fo_121_2
theorem fb_121_2 {cs} : fieldAddrP PP 121 (.tptr cs) 2 = if 2 ≤ cs.length then some (.tptr (cs.drop 2)) else none := fieldAddr_tptr fo_121_2
theorem fo_146_0 : fldOff PP 146 0 = (some 0) := by kernel_rfl
theorem fa_146_0 {d i u off hi} : fieldAddrP PP 146 (.ref d i u off hi) 0 = some (.ref d i u (off + 0) hi) := fieldAddr_ref fo_146_0
theorem fb_146_0 {cs} : fieldAddrP PP 146 (.tptr cs) 0 = if 0 ≤ cs.length then some (.tptr (cs.drop 0)) else none := fieldAddr_tptr fo_146_0
theorem fo_146_1 : fldOff PP 146 1 = (some 1) := by kernel_rfl
theorem fa_146_1 {d i u off hi} : fieldAddrP PP 146 (.ref d i u off hi) 1 = some (.ref d i u (off + 1) hi) := fieldAddr_ref fo_146_1
theorem fb_146_1 {cs} : fieldAddrP PP 146 (.tptr cs) 1 = if 1 ≤ cs.length then some (.tptr (cs.drop 1)) else none := fieldAddr_tptr fo_146_1
theorem fo_24_0 : fldOff PP 24 0 = (some 0) := by kernel_rfl
theorem fa_24_0 {d i u off hi} : fieldAddrP PP 24 (.ref d i u off hi) 0 = some (.ref d i u (off + 0) hi) := fieldAddr_ref fo_24_0
theorem fb_24_0 {cs} : fieldAddrP PP 24 (.tptr cs) 0 = if 0 ≤ cs.length then some (.tptr (cs.drop 0)) else none := fieldAddr_tptr fo_24_0
theorem fo_24_1 : fldOff PP 24 1 = (some 1) := by kernel_rfl
theorem fa_24_1 {d i u off hi} : fieldAddrP PP 24 (.ref d i u off hi) 1 = some (.ref d i u (off + 1) hi) := fieldAddr_ref fo_24_1
theorem fb_24_1 {cs} : fieldAddrP PP 24 (.tptr cs) 1 = if 1 ≤ cs.length then some (.tptr (cs.drop 1)) else none := fieldAddr_tptr fo_24_1
theorem fo_28_0 : fldOff PP 28 0 = (some 0) := by kernel_rfl
theorem fa_28_0 {d i u off hi} : fieldAddrP PP 28 (.ref d i u off hi) 0 = some (.ref d i u (off + 0) hi) := fieldAddr_ref fo_28_0
theorem fb_28_0 {cs} : fieldAddrP PP 28 (.tptr cs) 0 = if 0 ≤ cs.length then some (.tptr (cs.drop 0)) else none := fieldAddr_tptr fo_28_0
theorem fo_28_1 : fldOff PP 28 1 = (some 1) := by kernel_rfl
theorem fa_28_1 {d i u off hi} : fieldAddrP PP 28 (.ref d i u off hi) 1 = some (.ref d i u (off + 1) hi) := fieldAddr_ref fo_28_1
theorem fb_28_1 {cs} : fieldAddrP PP 28 (.tptr cs) 1 = if 1 ≤ cs.length then some (.tptr (cs.drop 1)) else none := fieldAddr_tptr fo_28_1
theorem fo_66_0 : fldOff PP 66 0 = (some 0) := by kernel_rfl
theorem fa_66_0 {d i u off hi} : fieldAddrP PP 66 (.ref d i u off hi) 0 = some (.ref d i u (off + 0) hi) := fieldAddr_ref fo_66_0
theorem fb_66_0 {cs} : fieldAddrP PP 66 (.tptr cs) 0 = if 0 ≤ cs.length then some (.tptr (cs.drop 0)) else none := fieldAddr_tptr fo_66_0
theorem fo_66_1 : fldOff PP 66 1 = (some 1) := by kernel_rfl
theorem fa_66_1 {d i u off hi} : fieldAddrP PP 66 (.ref d i u off hi) 1 = some (.ref d i u (off + 1) hi) := fieldAddr_ref fo_66_1
theorem fb_66_1 {cs} : fieldAddrP PP 66 (.tptr cs) 1 = if 1 ≤ cs.length then some (.tptr (cs.drop 1)) else none := fieldAddr_tptr fo_66_1
theorem fo_66_2 : fldOff PP 66 2 = (some 2) := by kernel_rfl
theorem fa_66_2 {d i u off hi} : fieldAddrP PP 66 (.ref d i u off hi) 2 = some (.ref d i u (off + 2) hi) := fieldAddr_ref fo_66_2
theorem fb_66_2 {cs} : fieldAddrP PP 66 (.tptr cs) 2 = if 2 ≤ cs.length then some (.tptr (cs.drop 2)) else none := fieldAddr_tptr fo_66_2
theorem fo_66_3 : fldOff PP 66 3 = (some 3) := by kernel_rfl
theorem fa_66_3 {d i u off hi} : fieldAddrP PP 66 (.ref d i u off hi) 3 = some (.ref d i u (off + 3) hi) := fieldAddr_ref fo_66_3
theorem fb_66_3 {cs} : fieldAddrP PP 66 (.tptr cs) 3 = if 3 ≤ cs.length then some (.tptr (cs.drop 3)) else none := fieldAddr_tptr fo_66_3
theorem fo_78_0 : fldOff PP 78 0 = (some 0) := by kernel_rfl
theorem fa_78_0 {d i u off hi} : fieldAddrP PP 78 (.ref d i u off hi) 0 = some (.ref d i u (off + 0) hi) := fieldAddr_ref fo_78_0
theorem fb_78_0 {cs} : fieldAddrP PP 78 (.tptr cs) 0 = if 0 ≤ cs.length then some (.tptr (cs.drop 0)) else none := fieldAddr_tptr fo_78_0
theorem fo_78_1 : fldOff PP 78 1 = (some 1) := by kernel_rfl
theorem fa_78_1 {d i u off hi} : fieldAddrP PP 78 (.ref d i u off hi) 1 = some (.ref d i u (off + 1) hi) := fieldAddr_ref fo_78_1
theorem fb_78_1 {cs} : fieldAddrP PP 78 (.tptr cs) 1 = if 1 ≤ cs.length then some (.tptr (cs.drop 1)) else none := fieldAddr_tptr fo_78_1
theorem fo_78_2 : fldOff PP 78 2 = (some 2) := by kernel_rfl
theorem fa_78_2 {d i u off hi} : fieldAddrP PP 78 (.ref d i u off hi) 2 = some (.ref d i u (off + 2) hi) := fieldAddr_ref fo_78_2
theorem fb_78_2 {cs} : fieldAddrP PP 78 (.tptr cs) 2 = if 2 ≤ cs.length then some (.tptr (cs.drop 2)) else none := fieldAddr_tptr fo_78_2
theorem fo_78_3 : fldOff PP 78 3 = (some 3) := by kernel_rfl
theorem fa_78_3 {d i u off hi} : fieldAddrP PP 78 (.ref d i u off hi) 3 = some (.ref d i u (off + 3) hi) := fieldAddr_ref fo_78_3
theorem fb_78_3 {cs} : fieldAddrP PP 78 (.tptr cs) 3 = if 3 ≤ cs.length then some (.tptr (cs.drop 3)) else none := fieldAddr_tptr fo_78_3
theorem fo_87_0 : fldOff PP 87 0 = (some 0) := by kernel_rfl
theorem fa_87_0 {d i u off hi} : fieldAddrP PP 87 (.ref d i u off hi) 0 = some (.ref d i u (off + 0) hi) := fieldAddr_ref fo_87_0
theorem fb_87_0 {cs} : fieldAddrP PP 87 (.tptr cs) 0 = if 0 ≤ cs.length then some (.tptr (cs.drop 0)) else none := fieldAddr_tptr fo_87_0
theorem sl_22 : slInfo PP 22 = (some (4, (40, [(.int .i64 0), (.int .i64 0), (.int .i64 0), (.str ByteArray.empty)]))) := by kernel_rfl
theorem ia_22 {d i u off len sz' lim k} {n : Int} : indexAddrP PP 22 (.sl d i u off len sz' lim) (.int k n) = if 0 ≤ n ∧ n.toNat < len ∧ sz' = 4 then some (.ref d i u (off + n.toNat * 4) (off + n.toNat * 4 + 4)) else none := indexAddr_sl sl_22
theorem ib_22 {es lim k} {n : Int} : indexAddrP PP 22 (.tree es lim) (.int k n) = if 0 ≤ n then (es[n.toNat]?).bind (fun e => if e.length = 4 then some (.tptr e) else none) else none := indexAddr_tree sl_22
theorem sl_26 : slInfo PP 26 = (some (4, (40, [(.int .i64 0), (.int .i64 0), (.int .i64 0), (.str ByteArray.empty)]))) := by kernel_rfl
theorem ia_26 {d i u off len sz' lim k} {n : Int} : indexAddrP PP 26 (.sl d i u off len sz' lim) (.int k n) = if 0 ≤ n ∧ n.toNat < len ∧ sz' = 4 then some (.ref d i u (off + n.toNat * 4) (off + n.toNat * 4 + 4)) else none := indexAddr_sl sl_26
theorem ib_26 {es lim k} {n : Int} : indexAddrP PP 26 (.tree es lim) (.int k n) = if 0 ≤ n then (es[n.toNat]?).bind (fun e => if e.length = 4 then some (.tptr e) else none) else none := indexAddr_tree sl_26
theorem sl_31 : slInfo PP 31 = (some (1, (8, [(.int .i64 0)]))) := by kernel_rfl
theorem ia_31 {d i u off len sz' lim k} {n : Int} : indexAddrP PP 31 (.sl d i u off len sz' lim) (.int k n) = if 0 ≤ n ∧ n.toNat < len ∧ sz' = 1 then some (.ref d i u (off + n.toNat * 1) (off + n.toNat * 1 + 1)) else none := indexAddr_sl sl_31
theorem ib_31 {es lim k} {n : Int} : indexAddrP PP 31 (.tree es lim) (.int k n) = if 0 ≤ n then (es[n.toNat]?).bind (fun e => if e.length = 1 then some (.tptr e) else none) else none := indexAddr_tree sl_31
theorem sl_69 : slInfo PP 69 = (some (4, (40, [(.int .i64 0), (.str ByteArray.empty), (.int .i64 0), (.int .i64 0)]))) := by kernel_rfl
theorem ia_69 {d i u off len sz' lim k} {n : Int} : indexAddrP PP 69 (.sl d i u off len sz' lim) (.int k n) = if 0 ≤ n ∧ n.toNat < len ∧ sz' = 4 then some (.ref d i u (off + n.toNat * 4) (off + n.toNat * 4 + 4)) else none := indexAddr_sl sl_69
theorem ib_69 {es lim k} {n : Int} : indexAddrP PP 69 (.tree es lim) (.int k n) = if 0 ≤ n then (es[n.toNat]?).bind (fun e => if e.length = 4 then some (.tptr e) else none) else none := indexAddr_tree sl_69
theorem sl_71 : slInfo PP 71 = (some (4, (40, [(.int .i64 0), (.str ByteArray.empty), (.int .i64 0), (.int .i64 0)]))) := by kernel_rfl
theorem ia_71 {d i u off len sz' lim k} {n : Int} : indexAddrP PP 71 (.sl d i u off len sz' lim) (.int k n) = if 0 ≤ n ∧ n.toNat < len ∧ sz' = 4 then some (.ref d i u (off + n.toNat * 4) (off + n.toNat * 4 + 4)) else none := indexAddr_sl sl_71
theorem ib_71 {es lim k} {n : Int} : indexAddrP PP 71 (.tree es lim) (.int k n) = if 0 ≤ n then (es[n.toNat]?).bind (fun e => if e.length = 4 then some (.tptr e) else none) else none := indexAddr_tree sl_71
theorem sl_119 : slInfo PP 119 = (some (1, (4, [(.int .i32 0)]))) := by kernel_rfl
theorem ia_119 {d i u off len sz' lim k} {n : Int} : indexAddrP PP 119 (.sl d i u off len sz' lim) (.int k n) = if 0 ≤ n ∧ n.toNat < len ∧ sz' = 1 then some (.ref d i u (off + n.toNat * 1) (off + n.toNat * 1 + 1)) else none := indexAddr_sl sl_119
theorem ib_119 {es lim k} {n : Int} : indexAddrP PP 119 (.tree es lim) (.int k n) = if 0 ≤ n then (es[n.toNat]?).bind (fun e => if e.length = 1 then some (.tptr e) else none) else none := indexAddr_tree sl_119
theorem sl_130 : slInfo PP 130 = (some (1, (24, [.nils]))) := by kernel_rfl
theorem ia_130 {d i u off len sz' lim k} {n : Int} : indexAddrP PP 130 (.sl d i u off len sz' lim) (.int k n) = if 0 ≤ n ∧ n.toNat < len ∧ sz' = 1 then some (.ref d i u (off + n.toNat * 1) (off + n.toNat * 1 + 1)) else none := indexAddr_sl sl_130
theorem ib_130 {es lim k} {n : Int} : indexAddrP PP 130 (.tree es lim) (.int k n) = if 0 ≤ n then (es[n.toNat]?).bind (fun e => if e.length = 1 then some (.tptr e) else none) else none := indexAddr_tree sl_130
theorem un_9 : PP.underlying 9 = (some .string) := by kernel_rfl
theorem xs_9 {s : ByteArray} {k} {n : Int} : indexP PP 9 (.str s) (.int k n) = if 0 ≤ n then (s[n.toNat]?).map (fun b => .int .u8 b.toNat) else none := index_str un_9
theorem tzr_3 : tzero PP 3 = (some (.int .i64 0)) := by kernel_rfl
theorem tzr_9 : tzero PP 9 = (some (.str ByteArray.empty)) := by kernel_rfl
theorem tzr_24 : tzero PP 24 = (some (.agg [(.int .i64 0), .nils])) := by kernel_rfl
theorem tzr_28 : tzero PP 28 = (some (.agg [(.int .i64 0), .nils])) := by kernel_rfl
theorem tzr_66 : tzero PP 66 = (some (.agg [(.int .i64 0), (.int .i64 0), (.int .i64 0), (.str ByteArray.empty)])) := by kernel_rfl
theorem tzr_78 : tzero PP 78 = (some (.agg [(.int .i64 0), (.int .i64 0), (.int .i64 0), (.str ByteArray.empty)])) := by kernel_rfl
theorem tzr_79 : tzero PP 79 = (some .nilp) := by kernel_rfl
theorem tzr_87 : tzero PP 87 = (some (.agg [(.int .i64 0), .nils])) := by kernel_rfl
theorem tzr_106 : tzero PP 106 = (some (.agg [(.int .i64 0), (.str ByteArray.empty), (.int .i64 0), (.int .i64 0)])) := by kernel_rfl
theorem tzr_107 : tzero PP 107 = (some (.agg [(.int .i64 0), (.str ByteArray.empty), (.int .i64 0), (.int .i64 0)])) := by kernel_rfl
theorem tzr_121 : tzero PP 121 = (some (.agg [.nils, (.int .i64 0), .nils])) := by kernel_rfl
theorem tzr_125 : tzero PP 125 = (some (.agg [(.bool false), (.bool false), (.bool false), (.bool false), (.bool false), (.bool false), (.bool false), (.bool false), (.bool false), (.bool false), (.bool false), (.bool false), (.bool false), (.bool false), (.bool false), (.bool false), (.bool false), (.bool false), (.bool false), (.bool false), (.bool false), (.bool false), (.bool false), (.bool false), (.bool false), (.bool false), (.bool false), (.bool false), (.bool false), (.bool false), (.bool false), (.bool false), (.bool false), (.bool false), (.bool false), (.bool false), (.bool false), (.bool false), (.bool false), (.bool false), (.bool false), (.bool false), (.bool false), (.bool false), (.bool false), (.bool false), (.bool false), (.bool false), (.bool false), (.bool false), (.bool false), (.bool false), (.bool false), (.bool false), (.bool false), (.bool false), (.bool false), (.bool false), (.bool false), (.bool false), (.bool false), (.bool false), (.bool false), (.bool false), (.bool false), (.bool false), (.bool false), (.bool false), (.bool false), (.bool false), (.bool false), (.bool false), (.bool false), (.bool false), (.bool false), (.bool false), (.bool false), (.bool false), (.bool false), (.bool false), (.bool false), (.bool false), (.bool false), (.bool false), (.bool false), (.bool false), (.bool false), (.bool false), (.bool false), (.bool false), (.bool false), (.bool false), (.bool false), (.bool false), (.bool false), (.bool false), (.bool false), (.bool false), (.bool false), (.bool false), (.bool false), (.bool false), (.bool false), (.bool false), (.bool false), (.bool false), (.bool false), (.bool false), (.bool false), (.bool false), (.bool false), (.bool false), (.bool false), (.bool false), (.bool false), (.bool false), (.bool false), (.bool false), (.bool false), (.bool false), (.bool false), (.bool false), (.bool false), (.bool false), (.bool false), (.bool false), (.bool false), (.bool false), (.bool false), (.bool false), (.bool false), (.bool false), (.bool false), (.bool false), (.bool false), (.bool false), (.bool false), (.bool false), (.bool false), (.bool false), (.bool false), (.bool false), (.bool false), (.bool false), (.bool false), (.bool false), (.bool false), (.bool false), (.bool false), (.bool false), (.bool false), (.bool false), (.bool false), (.bool false), (.bool false), (.bool false), (.bool false), (.bool false), (.bool false), (.bool false), (.bool false), (.bool false), (.bool false), (.bool false), (.bool false), (.bool false), (.bool false), (.bool false), (.bool false), (.bool false), (.bool false), (.bool false), (.bool false), (.bool false), (.bool false), (.bool false), (.bool false), (.bool false), (.bool false), (.bool false), (.bool false), (.bool false), (.bool false), (.bool false), (.bool false), (.bool false), (.bool false), (.bool false), (.bool false), (.bool false), (.bool false), (.bool false), (.bool false), (.bool false), (.bool false), (.bool false), (.bool false), (.bool false), (.bool false), (.bool false), (.bool false), (.bool false), (.bool false), (.bool false), (.bool false), (.bool false), (.bool false), (.bool false), (.bool false), (.bool false), (.bool false), (.bool false), (.bool false), (.bool false), (.bool false), (.bool false), (.bool false), (.bool false), (.bool false), (.bool false), (.bool false), (.bool false), (.bool false), (.bool false), (.bool false), (.bool false), (.bool false), (.bool false), (.bool false), (.bool false), (.bool false), (.bool false), (.bool false), (.bool false), (.bool false), (.bool false), (.bool false), (.bool false), (.bool false), (.bool false), (.bool false), (.bool false), (.bool false), (.bool false), (.bool false), (.bool false), (.bool false), (.bool false), (.bool false), (.bool false), (.bool false), (.bool false), (.bool false), (.bool false), (.bool false), (.bool false)])) := by kernel_rfl
theorem tzr_146 : tzero PP 146 = (some (.agg [(.int .u8 0), (.int .u8 0)])) := by kernel_rfl
theorem st_3 {H d i u off hi v} : storeP PP H 3 (.ref d i u off hi) v = if (cellsOf v).length = 1 ∧ isTup v = false then storeC H d i u off hi (cellsOf v) else none := store_ref tsz_3
theorem st_4 {H d i u off hi v} : storeP PP H 4 (.ref d i u off hi) v = if (cellsOf v).length = 1 ∧ isTup v = false then storeC H d i u off hi (cellsOf v) else none := store_ref tsz_4
theorem st_9 {H d i u off hi v} : storeP PP H 9 (.ref d i u off hi) v = if (cellsOf v).length = 1 ∧ isTup v = false then storeC H d i u off hi (cellsOf v) else none := store_ref tsz_9
theorem st_21 {H d i u off hi v} : storeP PP H 21 (.ref d i u off hi) v = if (cellsOf v).length = 1 ∧ isTup v = false then storeC H d i u off hi (cellsOf v) else none := store_ref tsz_21
theorem st_22 {H d i u off hi v} : storeP PP H 22 (.ref d i u off hi) v = if (cellsOf v).length = 1 ∧ isTup v = false then storeC H d i u off hi (cellsOf v) else none := store_ref tsz_22
theorem st_24 {H d i u off hi v} : storeP PP H 24 (.ref d i u off hi) v = if (cellsOf v).length = 2 ∧ isTup v = false then storeC H d i u off hi (cellsOf v) else none := store_ref tsz_24
theorem st_26 {H d i u off hi v} : storeP PP H 26 (.ref d i u off hi) v = if (cellsOf v).length = 1 ∧ isTup v = false then storeC H d i u off hi (cellsOf v) else none := store_ref tsz_26
theorem st_28 {H d i u off hi v} : storeP PP H 28 (.ref d i u off hi) v = if (cellsOf v).length = 2 ∧ isTup v = false then storeC H d i u off hi (cellsOf v) else none := store_ref tsz_28
theorem st_66 {H d i u off hi v} : storeP PP H 66 (.ref d i u off hi) v = if (cellsOf v).length = 4 ∧ isTup v = false then storeC H d i u off hi (cellsOf v) else none := store_ref tsz_66
theorem st_78 {H d i u off hi v} : storeP PP H 78 (.ref d i u off hi) v = if (cellsOf v).length = 4 ∧ isTup v = false then storeC H d i u off hi (cellsOf v) else none := store_ref tsz_78
theorem st_106 {H d i u off hi v} : storeP PP H 106 (.ref d i u off hi) v = if (cellsOf v).length = 4 ∧ isTup v = false then storeC H d i u off hi (cellsOf v) else none := store_ref tsz_106
theorem st_119 {H d i u off hi v} : storeP PP H 119 (.ref d i u off hi) v = if (cellsOf v).length = 1 ∧ isTup v = false then storeC H d i u off hi (cellsOf v) else none := store_ref tsz_119
theorem st_125 {H d i u off hi v} : storeP PP H 125 (.ref d i u off hi) v = if (cellsOf v).length = 256 ∧ isTup v = false then storeC H d i u off hi (cellsOf v) else none := store_ref tsz_125
theorem st_146 {H d i u off hi v} : storeP PP H 146 (.ref d i u off hi) v = if (cellsOf v).length = 2 ∧ isTup v = false then storeC H d i u off hi (cellsOf v) else none := store_ref tsz_146
theorem tsz_147 : tsz PP 147 = (some 32) := by kernel_rfl
theorem st_147 {H d i u off hi v} : storeP PP H 147 (.ref d i u off hi) v = if (cellsOf v).length = 32 ∧ isTup v = false then storeC H d i u off hi (cellsOf v) else none := store_ref tsz_147
theorem bok_24 : bldOk PP 24 = true := by kernel_rfl
theorem bu_24 {parts} : buildP PP 24 parts = (fillP (bldPlace PP 24) (cellsOf (.agg [(.int .i64 0), .nils])) parts).map .agg := buildP_eq tzr_24 bok_24
theorem bpl_24_0 : bldPlace PP 24 0 = (some (0, 1)) := by kernel_rfl
theorem bpl_24_1 : bldPlace PP 24 1 = (some (1, 1)) := by kernel_rfl
theorem bok_28 : bldOk PP 28 = true := by kernel_rfl
theorem bu_28 {parts} : buildP PP 28 parts = (fillP (bldPlace PP 28) (cellsOf (.agg [(.int .i64 0), .nils])) parts).map .agg := buildP_eq tzr_28 bok_28
theorem bpl_28_0 : bldPlace PP 28 0 = (some (0, 1)) := by kernel_rfl
theorem bpl_28_1 : bldPlace PP 28 1 = (some (1, 1)) := by kernel_rfl
theorem bok_66 : bldOk PP 66 = true := by kernel_rfl
theorem bu_66 {parts} : buildP PP 66 parts = (fillP (bldPlace PP 66) (cellsOf (.agg [(.int .i64 0), (.int .i64 0), (.int .i64 0), (.str ByteArray.empty)])) parts).map .agg := buildP_eq tzr_66 bok_66
theorem bpl_66_0 : bldPlace PP 66 0 = (some (0, 1)) := by kernel_rfl
theorem bpl_66_1 : bldPlace PP 66 1 = (some (1, 1)) := by kernel_rfl
theorem bpl_66_2 : bldPlace PP 66 2 = (some (2, 1)) := by kernel_rfl
theorem bpl_66_3 : bldPlace PP 66 3 = (some (3, 1)) := by kernel_rfl
theorem bok_78 : bldOk PP 78 = true := by kernel_rfl
theorem bu_78 {parts} : buildP PP 78 parts = (fillP (bldPlace PP 78) (cellsOf (.agg [(.int .i64 0), (.int .i64 0), (.int .i64 0), (.str ByteArray.empty)])) parts).map .agg := buildP_eq tzr_78 bok_78
theorem bpl_78_0 : bldPlace PP 78 0 = (some (0, 1)) := by kernel_rfl
theorem bpl_78_1 : bldPlace PP 78 1 = (some (1, 1)) := by kernel_rfl
theorem bpl_78_2 : bldPlace PP 78 2 = (some (2, 1)) := by kernel_rfl
theorem bpl_78_3 : bldPlace PP 78 3 = (some (3, 1)) := by kernel_rfl
theorem bok_87 : bldOk PP 87 = true := by kernel_rfl
theorem bu_87 {parts} : buildP PP 87 parts = (fillP (bldPlace PP 87) (cellsOf (.agg [(.int .i64 0), .nils])) parts).map .agg := buildP_eq tzr_87 bok_87
theorem bpl_87_0 : bldPlace PP 87 0 = (some (0, 2)) := by kernel_rfl
theorem bok_121 : bldOk PP 121 = true := by kernel_rfl
theorem bu_121 {parts} : buildP PP 121 parts = (fillP (bldPlace PP 121) (cellsOf (.agg [.nils, (.int .i64 0), .nils])) parts).map .agg := buildP_eq tzr_121 bok_121
theorem bpl_121_0 : bldPlace PP 121 0 = (some (0, 1)) := by kernel_rfl
theorem bpl_121_1 : bldPlace PP 121 1 = (some (1, 1)) := by kernel_rfl
theorem bpl_121_2 : bldPlace PP 121 2 = (some (2, 1)) := by kernel_rfl
theorem bok_146 : bldOk PP 146 = true := by kernel_rfl
theorem bu_146 {parts} : buildP PP 146 parts = (fillP (bldPlace PP 146) (cellsOf (.agg [(.int .u8 0), (.int .u8 0)])) parts).map .agg := buildP_eq tzr_146 bok_146
theorem bpl_146_0 : bldPlace PP 146 0 = (some (0, 1)) := by kernel_rfl
theorem bpl_146_1 : bldPlace PP 146 1 = (some (1, 1)) := by kernel_rfl
theorem bok_147 : bldOk PP 147 = true := by kernel_rfl
theorem tzr_147 : tzero PP 147 = (some (.agg [(.int .u8 0), (.int .u8 0), (.int .u8 0), (.int .u8 0), (.int .u8 0), (.int .u8 0), (.int .u8 0), (.int .u8 0), (.int .u8 0), (.int .u8 0), (.int .u8 0), (.int .u8 0), (.int .u8 0), (.int .u8 0), (.int .u8 0), (.int .u8 0), (.int .u8 0), (.int .u8 0), (.int .u8 0), (.int .u8 0), (.int .u8 0), (.int .u8 0), (.int .u8 0), (.int .u8 0), (.int .u8 0), (.int .u8 0), (.int .u8 0), (.int .u8 0), (.int .u8 0), (.int .u8 0), (.int .u8 0), (.int .u8 0)])) := by kernel_rfl
theorem bu_147 {parts} : buildP PP 147 parts = (fillP (bldPlace PP 147) (cellsOf (.agg [(.int .u8 0), (.int .u8 0), (.int .u8 0), (.int .u8 0), (.int .u8 0), (.int .u8 0), (.int .u8 0), (.int .u8 0), (.int .u8 0), (.int .u8 0), (.int .u8 0), (.int .u8 0), (.int .u8 0), (.int .u8 0), (.int .u8 0), (.int .u8 0), (.int .u8 0), (.int .u8 0), (.int .u8 0), (.int .u8 0), (.int .u8 0), (.int .u8 0), (.int .u8 0), (.int .u8 0), (.int .u8 0), (.int .u8 0), (.int .u8 0), (.int .u8 0), (.int .u8 0), (.int .u8 0), (.int .u8 0), (.int .u8 0)])) parts).map .agg := buildP_eq tzr_147 bok_147
theorem bpl_147_0 : bldPlace PP 147 0 = (some (0, 2)) := by kernel_rfl
theorem bpl_147_1 : bldPlace PP 147 1 = (some (2, 2)) := by kernel_rfl
theorem bpl_147_2 : bldPlace PP 147 2 = (some (4, 2)) := by kernel_rfl
theorem bpl_147_3 : bldPlace PP 147 3 = (some (6, 2)) := by kernel_rfl
theorem bpl_147_4 : bldPlace PP 147 4 = (some (8, 2)) := by kernel_rfl
theorem bpl_147_5 : bldPlace PP 147 5 = (some (10, 2)) := by kernel_rfl
theorem bpl_147_6 : bldPlace PP 147 6 = (some (12, 2)) := by kernel_rfl
theorem bpl_147_7 : bldPlace PP 147 7 = (some (14, 2)) := by kernel_rfl
theorem bpl_147_8 : bldPlace PP 147 8 = (some (16, 2)) := by kernel_rfl
theorem bpl_147_9 : bldPlace PP 147 9 = (some (18, 2)) := by kernel_rfl
theorem bpl_147_10 : bldPlace PP 147 10 = (some (20, 2)) := by kernel_rfl
theorem bpl_147_11 : bldPlace PP 147 11 = (some (22, 2)) := by kernel_rfl
theorem bpl_147_12 : bldPlace PP 147 12 = (some (24, 2)) := by kernel_rfl
theorem bpl_147_13 : bldPlace PP 147 13 = (some (26, 2)) := by kernel_rfl
theorem bpl_147_14 : bldPlace PP 147 14 = (some (28, 2)) := by kernel_rfl
theorem bpl_147_15 : bldPlace PP 147 15 = (some (30, 2)) := by kernel_rfl
theorem bpl_147_16 : bldPlace PP 147 16 = (some (32, 2)) := by kernel_rfl
theorem bpl_147_17 : bldPlace PP 147 17 = (some (34, 2)) := by kernel_rfl
theorem bpl_147_18 : bldPlace PP 147 18 = (some (36, 2)) := by kernel_rfl
theorem bpl_147_19 : bldPlace PP 147 19 = (some (38, 2)) := by kernel_rfl
theorem bpl_147_20 : bldPlace PP 147 20 = (some (40, 2)) := by kernel_rfl
theorem bpl_147_21 : bldPlace PP 147 21 = (some (42, 2)) := by kernel_rfl
theorem bpl_147_22 : bldPlace PP 147 22 = (some (44, 2)) := by kernel_rfl
theorem bpl_147_23 : bldPlace PP 147 23 = (some (46, 2)) := by kernel_rfl
theorem bpl_147_24 : bldPlace PP 147 24 = (some (48, 2)) := by kernel_rfl
theorem bpl_147_25 : bldPlace PP 147 25 = (some (50, 2)) := by kernel_rfl
theorem bpl_147_26 : bldPlace PP 147 26 = (some (52, 2)) := by kernel_rfl
theorem bpl_147_27 : bldPlace PP 147 27 = (some (54, 2)) := by kernel_rfl
theorem bpl_147_28 : bldPlace PP 147 28 = (some (56, 2)) := by kernel_rfl
theorem bpl_147_29 : bldPlace PP 147 29 = (some (58, 2)) := by kernel_rfl
theorem bpl_147_30 : bldPlace PP 147 30 = (some (60, 2)) := by kernel_rfl
theorem bpl_147_31 : bldPlace PP 147 31 = (some (62, 2)) := by kernel_rfl
theorem bpl_147_32 : bldPlace PP 147 32 = (some (64, 2)) := by kernel_rfl
theorem bpl_147_33 : bldPlace PP 147 33 = (some (66, 2)) := by kernel_rfl
theorem bpl_147_34 : bldPlace PP 147 34 = (some (68, 2)) := by kernel_rfl
theorem bpl_147_35 : bldPlace PP 147 35 = (some (70, 2)) := by kernel_rfl
theorem bpl_147_36 : bldPlace PP 147 36 = (some (72, 2)) := by kernel_rfl
theorem bpl_147_37 : bldPlace PP 147 37 = (some (74, 2)) := by kernel_rfl
theorem bpl_147_38 : bldPlace PP 147 38 = (some (76, 2)) := by kernel_rfl
theorem bpl_147_39 : bldPlace PP 147 39 = (some (78, 2)) := by kernel_rfl
theorem bs_22 {C : Cfg} {ts H len K} {l : List (Nat × Operand)} (hP : C.P = PP) (hl : len * 4 ≤ 2 ^ 24) : WS C ts H (.buildSlice 22 len l.toArray) K = WXh ((mapO (fun (p : Nat × Operand) => (evalO ts p.2).map fun v => (p.1, v)) l).bind fun ps => (fillP (fun i => some (i * 4, 4)) (repl len [(.int .i64 0), (.int .i64 0), (.int .i64 0), (.str ByteArray.empty)]) ps).map fun cells => (.sl (curD H) (curN H) 0 0 len 4 true, newO H cells, [])) K ⟨⟩ := WS_buildSlice (hP ▸ sl_22) hl
theorem bs_26 {C : Cfg} {ts H len K} {l : List (Nat × Operand)} (hP : C.P = PP) (hl : len * 4 ≤ 2 ^ 24) : WS C ts H (.buildSlice 26 len l.toArray) K = WXh ((mapO (fun (p : Nat × Operand) => (evalO ts p.2).map fun v => (p.1, v)) l).bind fun ps => (fillP (fun i => some (i * 4, 4)) (repl len [(.int .i64 0), (.int .i64 0), (.int .i64 0), (.str ByteArray.empty)]) ps).map fun cells => (.sl (curD H) (curN H) 0 0 len 4 true, newO H cells, [])) K ⟨⟩ := WS_buildSlice (hP ▸ sl_26) hl
theorem bs_31 {C : Cfg} {ts H len K} {l : List (Nat × Operand)} (hP : C.P = PP) (hl : len * 1 ≤ 2 ^ 24) : WS C ts H (.buildSlice 31 len l.toArray) K = WXh ((mapO (fun (p : Nat × Operand) => (evalO ts p.2).map fun v => (p.1, v)) l).bind fun ps => (fillP (fun i => some (i * 1, 1)) (repl len [(.int .i64 0)]) ps).map fun cells => (.sl (curD H) (curN H) 0 0 len 1 true, newO H cells, [])) K ⟨⟩ := WS_buildSlice (hP ▸ sl_31) hl
theorem bs_71 {C : Cfg} {ts H len K} {l : List (Nat × Operand)} (hP : C.P = PP) (hl : len * 4 ≤ 2 ^ 24) : WS C ts H (.buildSlice 71 len l.toArray) K = WXh ((mapO (fun (p : Nat × Operand) => (evalO ts p.2).map fun v => (p.1, v)) l).bind fun ps => (fillP (fun i => some (i * 4, 4)) (repl len [(.int .i64 0), (.str ByteArray.empty), (.int .i64 0), (.int .i64 0)]) ps).map fun cells => (.sl (curD H) (curN H) 0 0 len 4 true, newO H cells, [])) K ⟨⟩ := WS_buildSlice (hP ▸ sl_71) hl
theorem bs_119 {C : Cfg} {ts H len K} {l : List (Nat × Operand)} (hP : C.P = PP) (hl : len * 1 ≤ 2 ^ 24) : WS C ts H (.buildSlice 119 len l.toArray) K = WXh ((mapO (fun (p : Nat × Operand) => (evalO ts p.2).map fun v => (p.1, v)) l).bind fun ps => (fillP (fun i => some (i * 1, 1)) (repl len [(.int .i32 0)]) ps).map fun cells => (.sl (curD H) (curN H) 0 0 len 1 true, newO H cells, [])) K ⟨⟩ := WS_buildSlice (hP ▸ sl_119) hl
theorem bs_130 {C : Cfg} {ts H len K} {l : List (Nat × Operand)} (hP : C.P = PP) (hl : len * 1 ≤ 2 ^ 24) : WS C ts H (.buildSlice 130 len l.toArray) K = WXh ((mapO (fun (p : Nat × Operand) => (evalO ts p.2).map fun v => (p.1, v)) l).bind fun ps => (fillP (fun i => some (i * 1, 1)) (repl len [.nils]) ps).map fun cells => (.sl (curD H) (curN H) 0 0 len 1 true, newO H cells, [])) K ⟨⟩ := WS_buildSlice (hP ▸ sl_130) hl
theorem lstr_9 {s : ByteArray} : lenP PP 9 (.str s) = some (.int .i64 s.size) := len_str un_9
theorem ln_22 : lenP PP 22 .nils = some (.int .i64 0) := len_nils sl_22
theorem lt_22 {es lim} : lenP PP 22 (.tree es lim) = some (.int .i64 es.length) := len_tree sl_22
theorem ls_22 {d i u off len sz' lim} : lenP PP 22 (.sl d i u off len sz' lim) = some (.int .i64 len) := len_sl sl_22
theorem ln_26 : lenP PP 26 .nils = some (.int .i64 0) := len_nils sl_26
theorem lt_26 {es lim} : lenP PP 26 (.tree es lim) = some (.int .i64 es.length) := len_tree sl_26
theorem ls_26 {d i u off len sz' lim} : lenP PP 26 (.sl d i u off len sz' lim) = some (.int .i64 len) := len_sl sl_26
theorem ln_31 : lenP PP 31 .nils = some (.int .i64 0) := len_nils sl_31
theorem lt_31 {es lim} : lenP PP 31 (.tree es lim) = some (.int .i64 es.length) := len_tree sl_31
theorem ls_31 {d i u off len sz' lim} : lenP PP 31 (.sl d i u off len sz' lim) = some (.int .i64 len) := len_sl sl_31
theorem ln_69 : lenP PP 69 .nils = some (.int .i64 0) := len_nils sl_69
theorem lt_69 {es lim} : lenP PP 69 (.tree es lim) = some (.int .i64 es.length) := len_tree sl_69
theorem ls_69 {d i u off len sz' lim} : lenP PP 69 (.sl d i u off len sz' lim) = some (.int .i64 len) := len_sl sl_69
theorem ln_71 : lenP PP 71 .nils = some (.int .i64 0) := len_nils sl_71
theorem lt_71 {es lim} : lenP PP 71 (.tree es lim) = some (.int .i64 es.length) := len_tree sl_71
theorem ls_71 {d i u off len sz' lim} : lenP PP 71 (.sl d i u off len sz' lim) = some (.int .i64 len) := len_sl sl_71
theorem ln_119 : lenP PP 119 .nils = some (.int .i64 0) := len_nils sl_119
theorem lt_119 {es lim} : lenP PP 119 (.tree es lim) = some (.int .i64 es.length) := len_tree sl_119
theorem ls_119 {d i u off len sz' lim} : lenP PP 119 (.sl d i u off len sz' lim) = some (.int .i64 len) := len_sl sl_119
theorem ln_130 : lenP PP 130 .nils = some (.int .i64 0) := len_nils sl_130
theorem lt_130 {es lim} : lenP PP 130 (.tree es lim) = some (.int .i64 es.length) := len_tree sl_130
theorem ls_130 {d i u off len sz' lim} : lenP PP 130 (.sl d i u off len sz' lim) = some (.int .i64 len) := len_sl sl_130
theorem an_22 {H x} : appendP PP H 22 22 .nils x = (srcCells H 4 x).bind fun (n, new) => if n = 0 then some (.nils, H, []) else if roomOk n 40 then some (.sl (curD H) (curN H) 0 0 n 4 false, newO H new, []) else none := append_nils sl_22
theorem as_22 {H x d i u n0} : appendP PP H 22 22 (.sl d i u 0 n0 4 false) x = appSl H 4 40 d i u n0 x := append_sl sl_22
theorem an_26 {H x} : appendP PP H 26 26 .nils x = (srcCells H 4 x).bind fun (n, new) => if n = 0 then some (.nils, H, []) else if roomOk n 40 then some (.sl (curD H) (curN H) 0 0 n 4 false, newO H new, []) else none := append_nils sl_26
theorem as_26 {H x d i u n0} : appendP PP H 26 26 (.sl d i u 0 n0 4 false) x = appSl H 4 40 d i u n0 x := append_sl sl_26
theorem an_31 {H x} : appendP PP H 31 31 .nils x = (srcCells H 1 x).bind fun (n, new) => if n = 0 then some (.nils, H, []) else if roomOk n 8 then some (.sl (curD H) (curN H) 0 0 n 1 false, newO H new, []) else none := append_nils sl_31
theorem as_31 {H x d i u n0} : appendP PP H 31 31 (.sl d i u 0 n0 1 false) x = appSl H 1 8 d i u n0 x := append_sl sl_31
theorem an_71 {H x} : appendP PP H 71 71 .nils x = (srcCells H 4 x).bind fun (n, new) => if n = 0 then some (.nils, H, []) else if roomOk n 40 then some (.sl (curD H) (curN H) 0 0 n 4 false, newO H new, []) else none := append_nils sl_71
theorem as_71 {H x d i u n0} : appendP PP H 71 71 (.sl d i u 0 n0 4 false) x = appSl H 4 40 d i u n0 x := append_sl sl_71
theorem an_130 {H x} : appendP PP H 130 130 .nils x = (srcCells H 1 x).bind fun (n, new) => if n = 0 then some (.nils, H, []) else if roomOk n 24 then some (.sl (curD H) (curN H) 0 0 n 1 false, newO H new, []) else none := append_nils sl_130
theorem as_130 {H x d i u n0} : appendP PP H 130 130 (.sl d i u 0 n0 1 false) x = appSl H 1 24 d i u n0 x := append_sl sl_130
theorem un_141 : PP.underlying 141 = (some (.int .u64)) := by kernel_rfl
theorem un_152 : PP.underlying 152 = (some (.int .u32)) := by kernel_rfl
theorem cv_141_152 {k n} : convertP PP 141 152 (.int k n) = some (.int .u32 (IntKind.wrap .u32 n)) := conv_int un_141 un_152
theorem un_3 : PP.underlying 3 = (some (.int .i64)) := by kernel_rfl
theorem cv_141_3 {k n} : convertP PP 141 3 (.int k n) = some (.int .i64 (IntKind.wrap .i64 n)) := conv_int un_141 un_3
theorem cv_152_141 {k n} : convertP PP 152 141 (.int k n) = some (.int .u64 (IntKind.wrap .u64 n)) := conv_int un_152 un_141
theorem un_155 : PP.underlying 155 = (some (.int .u64)) := by kernel_rfl
theorem cv_152_155 {k n} : convertP PP 152 155 (.int k n) = some (.int .u64 (IntKind.wrap .u64 n)) := conv_int un_152 un_155
theorem cv_155_152 {k n} : convertP PP 155 152 (.int k n) = some (.int .u32 (IntKind.wrap .u32 n)) := conv_int un_155 un_152
theorem un_21 : PP.underlying 21 = (some (.int .i32)) := by kernel_rfl
theorem un_5 : PP.underlying 5 = (some (.int .u8)) := by kernel_rfl
theorem cv_21_5 {k n} : convertP PP 21 5 (.int k n) = some (.int .u8 (IntKind.wrap .u8 n)) := conv_int un_21 un_5
theorem cv_3_141 {k n} : convertP PP 3 141 (.int k n) = some (.int .u64 (IntKind.wrap .u64 n)) := conv_int un_3 un_141
theorem cv_5_21 {k n} : convertP PP 5 21 (.int k n) = some (.int .i32 (IntKind.wrap .i32 n)) := conv_int un_5 un_21
theorem cv_5_3 {k n} : convertP PP 5 3 (.int k n) = some (.int .i64 (IntKind.wrap .i64 n)) := conv_int un_5 un_3
theorem dr_3 : drwF Tryd.f3 = [(true, 24)] := by kernel_rfl
theorem dr_4 : drwF Tryd.f4 = [(true, 7)] := by kernel_rfl
theorem dr_5 : drwF Tryd.f5 = [(true, 23)] := by kernel_rfl
theorem dr_6 : drwF Tryd.f6 = [(true, 18)] := by kernel_rfl
theorem dr_8 : drwF Tryd.f8 = [(true, 6)] := by kernel_rfl
theorem dr_9 : drwF Tryd.f9 = [(true, 11)] := by kernel_rfl
theorem dr_10 : drwF Tryd.f10 = [(true, 12)] := by kernel_rfl
theorem dr_11 : drwF Tryd.f11 = [(true, 8), (true, 9)] := by kernel_rfl
theorem dr_18 : drwF Tryd.f18 = [(true, 7)] := by kernel_rfl
theorem dr_19 : drwF Tryd.f19 = [(true, 12)] := by kernel_rfl
theorem dr_20 : drwF Tryd.f20 = [(true, 12)] := by kernel_rfl
theorem dr_21 : drwF Tryd.f21 = [(true, 8)] := by kernel_rfl
theorem dr_23 : drwF Tryd.f23 = [(true, 8)] := by kernel_rfl
theorem dr_24 : drwF Tryd.f24 = [(true, 10)] := by kernel_rfl
theorem dr_26 : drwF Tryd.f26 = [(true, 7)] := by kernel_rfl
theorem dr_28 : drwF Tryd.f28 = [(true, 9), (true, 6)] := by kernel_rfl
theorem dr_37 : drwF Tryd.f37 = [(true, 8)] := by kernel_rfl
theorem dr_41 : drwF Tryd.f41 = [(true, 10), (true, 6)] := by kernel_rfl
theorem dr_44 : drwF Tryd.f44 = [(true, 16)] := by kernel_rfl
theorem dr_53 : drwF Tryd.f53 = [(true, 12)] := by kernel_rfl
theorem dr_55 : drwF Tryd.f55 = [(true, 8)] := by kernel_rfl
theorem dr_56 : drwF Tryd.f56 = [(true, 8), (true, 5)] := by kernel_rfl
theorem dr_60 : drwF Tryd.f60 = [(true, 20)] := by kernel_rfl
theorem dr_65 : drwF Tryd.f65 = [(true, 11)] := by kernel_rfl
theorem dr_67 : drwF Tryd.f67 = [(true, 6)] := by kernel_rfl
theorem dr_74 : drwF Tryd.f74 = [(true, 24)] := by kernel_rfl
theorem dr_90 : drwF Tryd.f90 = [(true, 7)] := by kernel_rfl
attribute [go_sem] ld_3 ldt_3 ld_4 ldt_4 ld_5 ldt_5 ld_9 ldt_9 ld_21 ldt_21 ld_22 ldt_22
attribute [go_sem] lda_24 ldb_24 ld_26 ldt_26 lda_28 ldb_28 ld_31 ldt_31 lda_66 ldb_66 lda_78 ldb_78
attribute [go_sem] ld_79 ldt_79 lda_106 ldb_106 lda_107 ldb_107 ld_119 ldt_119 lda_125 ldb_125 lda_146 ldb_146
attribute [go_sem] fa_106_0 fb_106_0 fa_106_1 fb_106_1 fa_106_2 fb_106_2 fa_106_3 fb_106_3 fa_107_0 fb_107_0 fa_107_1 fb_107_1
attribute [go_sem] fa_107_2 fb_107_2 fa_107_3 fb_107_3 fa_121_1 fb_121_1 fa_121_2 fb_121_2 fa_146_0 fb_146_0 fa_146_1 fb_146_1
attribute [go_sem] fa_24_0 fb_24_0 fa_24_1 fb_24_1 fa_28_0 fb_28_0 fa_28_1 fb_28_1 fa_66_0 fb_66_0 fa_66_1 fb_66_1
attribute [go_sem] fa_66_2 fb_66_2 fa_66_3 fb_66_3 fa_78_0 fb_78_0 fa_78_1 fb_78_1 fa_78_2 fb_78_2 fa_78_3 fb_78_3
attribute [go_sem] fa_87_0 fb_87_0 ia_22 ib_22 ia_26 ib_26 ia_31 ib_31 ia_69 ib_69 ia_71 ib_71
attribute [go_sem] ia_119 ib_119 ia_130 ib_130 xs_9 tzr_3 tzr_9 tzr_24 tzr_28 tzr_66 tzr_78 tzr_79
attribute [go_sem] tzr_87 tzr_106 tzr_107 tzr_121 tzr_146 st_3 st_4 st_9 st_21 st_22 st_24 st_26
attribute [go_sem] st_28 st_66 st_78 st_106 st_119 st_125 st_146 st_147 bu_24 bpl_24_0 bpl_24_1 bu_28
attribute [go_sem] bpl_28_0 bpl_28_1 bu_66 bpl_66_0 bpl_66_1 bpl_66_2 bpl_66_3 bu_78 bpl_78_0 bpl_78_1 bpl_78_2 bpl_78_3
attribute [go_sem] bu_87 bpl_87_0 bu_121 bpl_121_0 bpl_121_1 bpl_121_2 bu_146 bpl_146_0 bpl_146_1 bu_147 bpl_147_0 bpl_147_1
attribute [go_sem] bpl_147_2 bpl_147_3 bpl_147_4 bpl_147_5 bpl_147_6 bpl_147_7 bpl_147_8 bpl_147_9 bpl_147_10 bpl_147_11 bpl_147_12 bpl_147_13
attribute [go_sem] bpl_147_14 bpl_147_15 bpl_147_16 bpl_147_17 bpl_147_18 bpl_147_19 bpl_147_20 bpl_147_21 bpl_147_22 bpl_147_23 bpl_147_24 bpl_147_25
attribute [go_sem] bpl_147_26 bpl_147_27 bpl_147_28 bpl_147_29 bpl_147_30 bpl_147_31 bpl_147_32 bpl_147_33 bpl_147_34 bpl_147_35 bpl_147_36 bpl_147_37
attribute [go_sem] bpl_147_38 bpl_147_39 lstr_9 ln_22 lt_22 ls_22 ln_26 lt_26 ls_26 ln_31 lt_31 ls_31
attribute [go_sem] ln_69 lt_69 ls_69 ln_71 lt_71 ls_71 ln_119 lt_119 ls_119 ln_130 lt_130 ls_130
attribute [go_sem] an_22 as_22 an_26 as_26 an_31 as_31 an_71 as_71 an_130 as_130 cv_141_152 cv_141_3
attribute [go_sem] cv_152_141 cv_152_155 cv_155_152 cv_21_5 cv_3_141 cv_5_21 cv_5_3
attribute [go_sem ↓] bs_22 bs_26 bs_31 bs_71 bs_119 bs_130
end Go.Proofs.YtbcmiddffckgmaaDoor.Am
