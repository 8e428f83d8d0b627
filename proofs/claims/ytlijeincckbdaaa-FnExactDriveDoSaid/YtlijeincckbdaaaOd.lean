/- Regions that are walked in another order than their text's. -/
import Derived.Test.YtlijeincckbdaaaTb
import Derived.Test.YtlijeincckbdaaaA17
namespace Go.Proofs.Ytlijeincckbdaaa
/-- spec.DrawDriveDo -/
def tbO33 : Tab := tbF [(3, [1, 0, 2, 3, 4])]
/-- spec.DrawKeep -/
def tbO70 : Tab := tbF [(3, [1, 0, 2, 3, 4])]
/-- (*spec.l01Src).l08Drive -/
def tbO113 : Tab := tbF [(5, [1, 0, 4, 2, 3, 5]), (17, [0, 2, 1, 3, 4, 5, 6, 7]), (21, [0, 3, 1, 2, 4, 5, 6]), (10, [0, 2, 1, 3, 4, 5, 6, 7, 8])]
/-- spec.l13Keep -/
def tbO154 : Tab := tbF [(7, [0, 1, 4, 5, 9, 10, 2, 3, 6, 7, 11, 8, 12, 13, 14])]
/-- (*spec.l01Src).l13Snaps -/
def tbO160 : Tab := tbF [(6, [0, 1, 2, 7, 3, 4, 5, 6, 8, 9, 10, 11, 12, 13])]
/-- spec.l08Out -/
def tbO193 : Tab := tbF [(1, [1, 2, 3, 5, 6, 7, 8, 0, 4, 9, 10])]
/-- (*impl.Array).do -/
def tbO215 : Tab := tbF [(3, [0, 4, 8, 1, 2, 3, 5, 6, 7, 9, 10, 11, 12, 13, 14, 15, 16])]
/-- spec.l05More -/
def tbO232 : Tab := tbF [(1, [1, 4, 6, 8, 10, 0, 2, 5, 7, 9, 11, 12, 14, 3, 13, 15])]
/-- slices.Reverse[[]impl.Stored,impl.Stored] -/
def tbO243 : Tab := tbF [(3, [0, 1, 2, 3, 4, 5, 6, 8, 9, 10, 7, 11, 12, 13, 14, 15])]
/-- slices.insertionSortCmpFunc[impl.Snap] -/
def tbO244 : Tab := tbF [(6, [0, 1, 2, 3, 4, 5, 6, 7, 8, 10, 11, 12, 9, 13, 14, 15, 16, 17])]
/-- slices.heapSortCmpFunc[impl.Snap] -/
def tbO245 : Tab := tbF [(10, [0, 1, 2, 3, 4, 5, 6, 7, 8, 9, 10, 12, 13, 14, 11, 15, 16, 17, 18, 19])]
/-- slices.breakPatternsCmpFunc[impl.Snap] -/
def tbO246 : Tab := tbF [(10, [0, 1, 2, 3, 4, 5, 6, 7, 8, 9, 10, 12, 13, 14, 11, 15, 16, 17, 18, 19])]
/-- slices.reverseRangeCmpFunc[impl.Snap] -/
def tbO248 : Tab := tbF [(3, [0, 1, 2, 3, 4, 5, 6, 8, 9, 10, 7, 11, 12, 13, 14, 15])]
/-- slices.partialInsertionSortCmpFunc[impl.Snap] -/
def tbO249 : Tab := tbF [(11, [0, 1, 2, 3, 4, 5, 6, 7, 8, 10, 11, 12, 9, 13, 14, 15, 16, 17]), (17, [0, 1, 2, 3, 4, 5, 6, 7, 8, 10, 11, 12, 9, 13, 14, 15, 16, 17]), (23, [0, 1, 2, 3, 4, 5, 6, 7, 8, 10, 11, 12, 9, 13, 14, 15, 16, 17])]
/-- slices.partitionEqualCmpFunc[impl.Snap] -/
def tbO250 : Tab := tbF [(1, [0, 1, 2, 3, 4, 5, 6, 8, 9, 10, 7, 11, 12, 13, 14, 15]), (8, [0, 1, 2, 3, 4, 5, 6, 8, 9, 10, 7, 11, 12, 13, 14, 15])]
/-- slices.partitionCmpFunc[impl.Snap] -/
def tbO251 : Tab := tbF [(1, [0, 1, 2, 3, 4, 5, 6, 8, 9, 10, 7, 11, 12, 13, 14, 15]), (8, [0, 1, 2, 3, 4, 5, 6, 8, 9, 10, 7, 11, 12, 13, 14, 15]), (10, [0, 1, 2, 3, 4, 5, 6, 8, 9, 10, 7, 11, 12, 13, 14, 15]), (18, [0, 1, 2, 3, 4, 5, 6, 8, 9, 10, 7, 11, 12, 13, 14, 15]), (21, [0, 1, 2, 3, 4, 5, 6, 8, 9, 10, 7, 11, 12, 13, 14, 15])]
/-- slices.siftDownCmpFunc[impl.Snap] -/
def tbO256 : Tab := tbF [(6, [0, 1, 2, 3, 4, 5, 6, 7, 8, 9, 10, 11, 12, 14, 15, 16, 17, 18, 13, 19, 20, 21, 22, 23])]
end Go.Proofs.Ytlijeincckbdaaa
