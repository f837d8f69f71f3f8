/-
  A part of the proof of PlanOps, over the seat YtlhlbamcgopiiaaGreatDoor: for every input the law returns true, and the input reads as it did.
-/
import Derived.Test.YtlhlbamcgopiiaaGreatDoorGe
import Derived.Test.YtlhlbamcgopiiaaGreatDoorGg
import Derived.Test.YtlhlbamcgopiiaaGreatDoorChecked
set_option linter.all false
set_option linter.all false
set_option maxRecDepth 100000
namespace Go.Proofs.YtlhlbamcgopiiaaGreatDoor
open Go Go.RowKit Go.Proofs Go.Proofs.YtlhlbamcgopiiaaGreatDoor
@[simp] def an8:FnAnn:=⟨true,[7,11],[(0,[2]),(1,[12]),(2,[0,13]),(3,[13,14,15]),(4,[0,16]),(5,[16]),(9,[20,21,22,23]),(10,[8,24,25,26,27,28,29,30,31,32,33,34,35]),(11,[10,36]),(12,[7,37,38,39,40]),(13,[41,42,43,44,45,46,47,48]),(14,[0,3,4,5,6,9,11,17,18,19,49]),(15,[11,49,50,51,52,53,54,55,56,57,58,59]),(16,[0,3,4,5,6,9,17,18,19,60]),(17,[9,60,61,62,63,64]),(18,[6,65,66,67,68,69,70,71]),(19,[72,73]),(20,[0,3,4,5,17,18,19,74]),(21,[6,7,9,37,74,75]),(22,[0,3,4,5,17,18,19,20])]⟩
@[simp] def an10:FnAnn:=⟨true,[],[(0,[0]),(1,[1,2,3])]⟩
@[simp] def an11:FnAnn:=⟨true,[4],[(0,[2]),(3,[8,9,10]),(4,[4,11,12,13]),(5,[0,5,6,7,14]),(6,[14,15]),(7,[0,5,6,7,8,16,17,18])]⟩
@[simp] def an13:FnAnn:=⟨true,[5],[(0,[2]),(2,[0]),(4,[9,10,11]),(5,[5,12,13,14,15,16,17,18,19,20,21,22,23,24,25]),(6,[26]),(7,[3,6,7,8,9,27])]⟩
@[simp] def an14:FnAnn:=⟨true,[3,4],[(0,[1]),(1,[4,6,7,8,9,10]),(2,[5,11,12,13,14,15,16,17]),(3,[0,3,18,19,20,21,22,23,24,25,26,27])]⟩
@[simp] def an15:FnAnn:=⟨true,[4,6],[(0,[1]),(1,[7]),(2,[10]),(3,[0,2,4,8,9,11,12,13,14,15,16,17,18]),(4,[8,9,20]),(5,[0,2,4,19,21,22,23,24,25,26,27]),(6,[0,2,4,19,28,29,30,31,32,33,34,35,36,37,38,39])]⟩
@[simp] def an16:FnAnn:=⟨true,[4,5,7,11],[(0,[1,2]),(1,[12]),(8,[40]),(9,[0,4,5,13,39,41,42,43,44]),(10,[39,46]),(11,[5,13,45,47,48]),(13,[52,53,54]),(14,[55,56,57,58,59,60,61]),(15,[7,62,63,64]),(16,[65]),(17,[13,45,67]),(18,[0,4,5,66,68,69,70,71]),(2,[4,5,9,14,15,16,17,18,19,20,21,22,23,24,25,26,27,28,66]),(3,[8]),(5,[32,33,34]),(6,[11,35,36,37]),(7,[38])]⟩
@[simp] def an17:FnAnn:=⟨true,[1],[(0,[0,2]),(1,[3]),(2,[6]),(3,[1,4,5,7,8,9]),(4,[4,5,11]),(5,[1,10,12,13,14]),(6,[1,10])]⟩
@[simp] def an18:FnAnn:=⟨true,[3],[(0,[1,4]),(3,[8,9]),(4,[10,11,12]),(5,[13,14,15]),(6,[16,17,18]),(7,[10,19,20]),(8,[21,22,23,24,25,26,27]),(9,[21,28]),(11,[29,30,31]),(13,[32,35,36,37]),(14,[38,39,40,41]),(15,[38,42,43,44,45,46,47,48,49,50,51,52,53,54,55,56]),(16,[57,58,59,60,61,62,63,64]),(12,[33,34,57]),(17,[0,3,5,6,7,32,65])]⟩
@[simp] def an19:FnAnn:=⟨true,[],[(0,[2]),(1,[0,3,4,5,6])]⟩
@[simp] def an31:FnAnn:=⟨true,[3,7],[(0,[1,4]),(1,[8,9,10]),(2,[11]),(3,[0,3,5,12,13]),(4,[5,12,14,15,16]),(5,[17]),(7,[21,22,23]),(8,[7,24,25,26,27]),(9,[28]),(10,[0,3,18,19,20,21])]⟩
@[simp] def an42:FnAnn:=⟨true,[3,6,8,11],[(0,[1,4]),(1,[13,14]),(2,[15]),(3,[0,3,5,16,17]),(4,[5,16,18,19,20,21,22]),(5,[0,3,23]),(6,[23,24,25,26,27,28]),(7,[6,7,29,30,31,32,33,34,35,36]),(8,[0,3,37]),(9,[37,38,39,40]),(10,[41]),(12,[45,46,47]),(13,[48,49]),(14,[51,52,53,54,55,56,57,58,59,60]),(15,[61,62,63,64,65,66]),(16,[0,3,8,9,11,12,42,43,44,50]),(17,[50,68,69,70,71,72]),(18,[0,3,8,9,11,12,42,43,44,67]),(19,[67,73]),(20,[74,75,76]),(21,[77,78,79,80]),(22,[77,81,82,83,84,85,86]),(23,[74,87,88]),(24,[11,12,89,90,91,92,93,94,95,96,97,98,99]),(25,[11,12,89,100]),(26,[0,3,8,9,42,43,44,45,101,102,103,104,105,106,107]),(27,[108]),(28,[108])]⟩
@[simp] def an45:FnAnn:=⟨true,[2],[(0,[0,4,5,6]),(1,[8]),(2,[11]),(3,[9,10,12,13,14,15,16,17,18]),(4,[1,2,19]),(5,[19,20,21,22,23,24,25,26,27]),(6,[1,2,28]),(7,[28,29,30,31,32,33,34,35,36,37]),(8,[1,2,38]),(9,[38,39,40,41]),(10,[1,2,42]),(11,[1,2,42,43,44,45,46,47,48,49,50]),(12,[10,52]),(13,[9,53]),(14,[9,51,54,55,56,57,58,59,60,61,62,63,64,65]),(15,[1,2,66]),(16,[66,67,68,69,70,71,72,73,74,75,76,77,78,79,80,81]),(17,[1,2,82]),(18,[82,83,84,85,86,87]),(19,[88]),(20,[1,2,7,89]),(21,[89,90,91]),(22,[1,2,7,92,93,94,95]),(23,[92,96,97,98,99,100,101,102,103]),(24,[1,2,7,104]),(25,[2,104,105,106,107,108,109,110,111,112,113,114,115]),(26,[1,7,116]),(27,[1,7,116,117,118]),(28,[1,2,9,51])]⟩
@[simp] def an46:FnAnn:=⟨true,[1],[(0,[0,2]),(1,[4,5,6,7,8,9,10,11,12,13,14,15]),(2,[1,16]),(3,[16,17]),(7,[28]),(8,[18,27,29,30,31,32,33,34,35,36]),(9,[1,37]),(10,[37,38,39,40]),(11,[1,41]),(12,[27,43]),(13,[18,44]),(14,[18,42,45,46,47]),(15,[48]),(16,[1,3,49,50]),(4,[1,18,19,20,21,22,23,24,25,42]),(5,[26]),(6,[26]),(17,[1,3,41,49,51,52,53,54,55,56,57]),(18,[58]),(19,[58])]⟩
@[simp] def an51:FnAnn:=⟨true,[1],[(0,[0,2]),(1,[1,3,4,5])]⟩
@[simp] def an55:FnAnn:=⟨true,[4],[(0,[5]),(1,[0,1,6,7,8,9,10,11,12])]⟩
@[simp] def an57:FnAnn:=⟨true,[3],[(0,[1,4]),(1,[5]),(2,[8]),(3,[0,3,6,7,9,10,11,12,13,14,15,16,17,18,19,20]),(4,[6,7,22]),(5,[0,3,21,23,24,25,26,27,28,29,30,31]),(6,[21,32,33,34,35]),(7,[0,3,36,37,38,39,40,41,42,43,44,45,46,47,48,49,50,51,52,53,54,55,56,57,58,59]),(8,[0,3,36,60,61,62,63,64,65,66,67,68,69,70,71,72,73,74,75,76,77,78,79,80,81,82])]⟩
@[simp] def an58:FnAnn:=⟨true,[1,2],[(0,[0,3]),(1,[4,5,6,7,8,9,10,11,12,13,14]),(2,[1,15,16]),(3,[1,15,17,18,19,20,21,22,23,24])]⟩
@[simp] def an59:FnAnn:=⟨true,[4],[(0,[1,6]),(1,[7,8,9,10]),(2,[11,12,13,14,15,16,17,18,19]),(3,[11,20,21,22,23,24,25]),(4,[0,2,4,26]),(5,[0,2,4,26,27,28,29,30,31,32,33,34])]⟩
@[simp] def an60:FnAnn:=⟨true,[1,2],[(0,[0]),(1,[1,3,4,5,6,7])]⟩
@[simp] def an61:FnAnn:=⟨true,[4,5],[(1,[7]),(2,[0,1,8,9]),(3,[0,1,6,8,10,11,12,13,14,15,16]),(4,[5,17,18,19])]⟩
@[simp] def an62:FnAnn:=⟨true,[9],[(0,[6]),(1,[11,12,13,14]),(2,[1,15]),(3,[16,17]),(5,[10,18,21,22,23,24,25,26]),(6,[9,27,28,29,30,31]),(4,[19,20]),(7,[0,2,7,8,18,32,33])]⟩
@[simp] def an63:FnAnn:=⟨true,[4,5,6,8],[(0,[1,2]),(1,[9,10,11,12]),(2,[13,14,15,16,17,18,19,20,21,22,23,24]),(3,[5,25,26]),(5,[29,30]),(6,[7,31,32,33]),(7,[34,35,36,37,38,39,40,41]),(8,[8,42,43,44,45,46,47,48,49,50,51]),(9,[52,53,54,55,56,57,58]),(10,[59])]⟩
@[simp] def an64:FnAnn:=⟨true,[5],[(0,[2]),(2,[0]),(4,[10,11,12]),(5,[13]),(7,[16,17]),(8,[6,18,19,20,21,22,23,24]),(9,[25]),(10,[5,14,15,16,26]),(11,[3,7,8,9,10,27])]⟩
@[simp] def an65:FnAnn:=⟨true,[4,5],[(0,[1,2,6]),(1,[9,10,11,12,13,14]),(2,[15]),(3,[0,4,5,7,16]),(4,[0,5,16,17,18,19,20]),(5,[21]),(6,[4,7,8,22,23]),(7,[4,7,8,22,24,25,26,27,28,29,30,31,32,33])]⟩
@[simp] def an66:FnAnn:=⟨true,[3,4,8],[(0,[1]),(1,[5,9,10,11,12,13,14,15,16,17,18,19,20]),(2,[21,22,23,24,25,26]),(3,[3,27,28,29,30]),(5,[34,35,36]),(6,[8,37,38,39,40,41,42,43,44,45,46,47,48,49]),(7,[50])]⟩
@[simp] def an67:FnAnn:=⟨true,[4,5,6,7,9,10],[(0,[1,2]),(1,[12,13,14,15,16,17]),(2,[5,18]),(4,[22,23,24]),(5,[25,26,27,28,29,30,31]),(6,[32,33,34,35,36,37]),(7,[38]),(9,[41,42]),(10,[43,44,45,46,47,48,49,50,51,52]),(11,[53,54,55,56,57,58,59,60,61,62,63,64,65,66]),(12,[11,67,68,69,70,71,72]),(13,[73]),(14,[9,10,39,40,41,74,75,76,77,78,79]),(15,[80])]⟩
@[simp] def an68:FnAnn:=⟨true,[4],[(0,[1,6,7]),(1,[9,10,11]),(2,[0,2,4,12]),(3,[0,4,12,13,14,15,16,17,18]),(4,[2]),(5,[19,20,21,22,23,24,25,26]),(6,[19,27,28,29,30,31,32,33]),(7,[8,34,35,36,37,38])]⟩
@[simp] def an69:FnAnn:=⟨true,[5],[(0,[2]),(2,[0]),(4,[9,10,11]),(5,[5,12,13,14,15]),(6,[16]),(7,[3,6,7,8,9,17])]⟩
@[simp] def an70:FnAnn:=⟨true,[5],[(0,[2]),(2,[0,6,7,8,9]),(3,[10]),(5,[11,14,15]),(6,[16]),(7,[5,17,18,19,20]),(4,[5,12,13,17]),(8,[3,4,11,21])]⟩
@[simp] def an71:FnAnn:=⟨true,[],[(0,[2]),(1,[0,3,4,5,6,7])]⟩
@[simp] def an78:FnAnn:=⟨true,[3],[(0,[1,4]),(1,[0,3,5,6,7,8,9,10,11])]⟩
@[simp] def an79:FnAnn:=⟨true,[3],[(0,[1,4]),(1,[0,3,6,7,8,9,10,11]),(2,[5,12,13,14,15,16,17,18,19,20])]⟩
@[simp] def an80:FnAnn:=⟨true,[3],[(0,[1,4]),(1,[0,3,6,7,8,9,10,11]),(2,[5,12,13,14,15,16,17,18,19,20])]⟩
@[simp] def an87:FnAnn:=⟨true,[],[(0,[2]),(1,[0,3,4,5,6,7])]⟩
@[simp] def an88:FnAnn:=⟨true,[1,5],[(0,[0,2]),(3,[8,9,10,11,12,13,14,15]),(4,[1,3,4,16]),(5,[16,17,18,19]),(6,[1,3,4,20]),(7,[20,21,22,23,24,25,70]),(8,[26,27]),(9,[28]),(10,[1,3,4,5,6,29,30]),(11,[6,29,31,32,33,34,35,36,37,38,39,40,41,42,43,44,45]),(12,[1,3,4,5,46]),(13,[46,47,48]),(14,[49]),(15,[3,50,51,52,53,54,55,56,57]),(16,[1,4,5,7,58]),(17,[5,7,58,59,60,61,62,63]),(18,[5,7,50,64,65]),(19,[66,67,68,69]),(20,[1,3,4,70])]⟩
@[simp] def an89:FnAnn:=⟨true,[5,6,7],[(0,[1,2,3,8]),(1,[0,5,6,7,9,10,11,12,13,14,15,16,17,18,19,20,21,22,23,24])]⟩
@[simp] def an90:FnAnn:=⟨true,[8,10],[(0,[6]),(1,[1,11]),(3,[15,16,17]),(4,[18,19,20,21]),(5,[22]),(7,[26,27,28]),(8,[10,29,30]),(9,[31,32]),(10,[0,2,8,12,13,14,23,24,25,26]),(11,[8,22,23,24,25,31,33]),(12,[0,2,12,13,14,15])]⟩
@[simp] def an91:FnAnn:=⟨true,[4,5],[(0,[1,2,6]),(1,[8]),(3,[11,12]),(4,[7,13,14,15,16,17,18,19,20,21,22]),(5,[0,4,5,9,10,23]),(6,[23,24]),(7,[0,4,5,9,10,11])]⟩
@[simp] def an92:FnAnn:=⟨true,[1,5],[(0,[0,2]),(2,[1,6]),(4,[10,11,12]),(5,[5,13,14,15,16]),(6,[17]),(7,[3,7,8,9,10,18])]⟩
@[simp] def an93:FnAnn:=⟨true,[1,2],[(0,[0]),(1,[1,3,4,5,6,7])]⟩
@[simp] def an94:FnAnn:=⟨true,[3,8],[(0,[1,4]),(1,[3,9,10,11,12,13,14]),(2,[15]),(3,[0,5,16]),(4,[16]),(5,[17,18,19,20,21,22]),(6,[23,24,25]),(7,[5,23,26,27,28]),(9,[32,33,34]),(10,[8,35,36,37]),(11,[38,39,40]),(12,[38,41]),(13,[0,6,29,30,31,32,42])]⟩
@[simp] def an95:FnAnn:=⟨true,[],[(0,[2]),(2,[4,5,6]),(4,[7,10,11,12,13,14,15,16,17,18,19,20,21,22,23,24]),(5,[0,3,25]),(3,[8,9,25]),(6,[0,3,7])]⟩
@[simp] def an96:FnAnn:=⟨true,[1],[(0,[0,2]),(1,[6,7,8,9,10,11,12,13]),(2,[14,15,16,17,18,19,20,21]),(3,[22,23,24,25,26,27,28,29]),(4,[1,3,4,5,30,31,32,33,34,35,36,37,38,39,40,41,42,43,44,45,46,47,48,49,50,51,52,53,54,55,56,57,58,59,60,61,62,63,64,65,66,67])]⟩
@[simp] def an97:FnAnn:=⟨true,[],[(0,[2]),(1,[0,5]),(3,[9,10,11]),(4,[4,12,13,14,15,16,17,18,19,20]),(5,[6,7,8,21]),(6,[21,22]),(7,[6,7,8,9])]⟩
@[simp] def an98:FnAnn:=⟨true,[5],[(0,[2]),(1,[6,7]),(2,[0,8]),(3,[8,9,10]),(4,[0,11]),(5,[11]),(8,[15,16,17]),(9,[18,19]),(10,[0,3,5,12,13,14,20]),(11,[5,20,21,22,23,24]),(12,[25]),(13,[0,3,12,13,14,26]),(14,[26,27]),(15,[0,3,12,13,14,15,28,29]),(16,[30]),(17,[30])]⟩
@[simp] def an99:FnAnn:=⟨true,[1],[(0,[0,2]),(1,[1,3,4,5,6,7,8,9,10,11,12,13,14,15,16,17,18,19,20,21,22,23,24,25])]⟩
@[simp] def an100:FnAnn:=⟨true,[3],[(0,[1,4]),(1,[0,3,5,6,7,8,9,10,11])]⟩
@[simp] def an102:FnAnn:=⟨true,[4,6,8,11],[(0,[1,7]),(1,[12,13,14,15,16,17]),(2,[0,4,18,19,20,21,22]),(4,[26,27,28,29]),(5,[10,30,31,32,33,34,35,36,37,38,39,40,41,42,43,44,45]),(6,[11,46,47]),(7,[11,46,48]),(8,[2,8,9,23,24,25,26,49,50])]⟩
@[simp] def an104:FnAnn:=⟨true,[3,4],[(0,[1,5]),(1,[0,3,8,9,10,11,12,13]),(2,[14]),(3,[6,7,15,16]),(4,[6,7,15,17,18,19,20])]⟩
@[simp] def an111:FnAnn:=⟨true,[4,7],[(0,[1,5]),(1,[8,9,10,11,12,13,14]),(2,[0,3,15,16]),(3,[0,15,17,18,19,20,21,22,23,24]),(4,[3,6,7,25,26,27,28,29,30,31])]⟩
@[simp] def an113:FnAnn:=⟨true,[5],[(0,[2]),(2,[0]),(4,[10,11,12]),(5,[13,14]),(6,[15,16,17,18,19,20,21,22,23,24,25,26,27,28,29,30,31,32,33,34,35,36,37,38,39,40,41]),(7,[5,6,42,43,44,45,46,47,48,49,50,51]),(8,[5,6,42,52,53,54,55,56]),(9,[57]),(10,[3,7,8,9,10,58])]⟩
@[simp] def an114:FnAnn:=⟨true,[2,4],[(0,[0]),(1,[1,2,5,6,7,8,9,10])]⟩
@[simp] def an115:FnAnn:=⟨true,[4,5,7],[(0,[1,2,6]),(1,[9,10]),(2,[0,4,5,11]),(3,[4,11,12,13,14,15,16,17,18,19]),(4,[20]),(5,[0,5,7,8,21,22]),(6,[0,5,7,8,21,23,24,25,26])]⟩
@[simp] def an116:FnAnn:=⟨true,[2,4],[(0,[0]),(1,[1,2,5,6,7,8,9,10,11,12,13,14])]⟩
@[simp] def an117:FnAnn:=⟨true,[4,5],[(0,[1,2,6]),(1,[8,9,10,11,12,13]),(2,[0,4,5,14]),(3,[14,15,16,17,18]),(4,[19]),(5,[0,4,5,7,20,21]),(6,[0,4,5,7,20,22,23,24,25,26,27,28,29])]⟩
@[simp] def an118:FnAnn:=⟨true,[4],[(0,[1,2,6]),(1,[8,9,10,11]),(2,[12,13,14,15,16]),(3,[12,17,18,19,20,21,22]),(4,[23,24]),(5,[0,4,5,7,25]),(6,[4,5,7,25,26,27,28,29,30,31,32,33,34]),(7,[0,35,36,37,38,39,40,41])]⟩
@[simp] def an119:FnAnn:=⟨true,[2,4],[(0,[0]),(1,[1,2,5,6,7,8,9,10,11,12])]⟩
@[simp] def an120:FnAnn:=⟨true,[4,5],[(0,[1,2,6]),(1,[0,4,8,9,10,11,12,13]),(2,[14]),(3,[5,7,15]),(4,[15,16,17,18,19,20,21]),(5,[5,7,22,23,24,25,26,27,28,29,30,31,32]),(6,[5,7,22])]⟩
@[simp] def an121:FnAnn:=⟨true,[3],[(0,[1,4]),(1,[0,3,5,6,7,8,9,10,11])]⟩
@[simp] def an122:FnAnn:=⟨true,[4,9],[(0,[1,6]),(1,[4,10,11,12,13,14,15]),(2,[16]),(3,[0,2,7,8,17]),(4,[17,18,19,20,21]),(5,[0,2,7,8,22]),(6,[22,23,24,25,26,27]),(7,[28]),(8,[8,29,30,31,32,33,34]),(9,[8,29,35,36]),(10,[2,37,38]),(11,[9,39,40,41,42,43,44]),(12,[45,46,47]),(13,[0,7,48,49,50,51])]⟩
@[simp] def an123:FnAnn:=⟨true,[3,7],[(0,[1,4]),(1,[9,10,11]),(2,[12]),(4,[15,16]),(5,[6,8,17,18,19,20,21,22,23,24,25,26,27]),(6,[7,28,29,30,31,32]),(7,[33]),(8,[0,3,5,13,14,15,34,35])]⟩
@[simp] def an124:FnAnn:=⟨true,[4,5],[(0,[1,2,6]),(1,[7,8,9,10,11,12]),(2,[0,4,5,13]),(3,[0,4,5,13,14,15,16,17])]⟩
@[simp] def an125:FnAnn:=⟨true,[1,2],[(0,[0]),(1,[1,3,4,5,6,7])]⟩
@[simp] def an126:FnAnn:=⟨true,[],[(0,[2]),(1,[3]),(2,[0,4]),(3,[0,4,5,6,7])]⟩
@[simp] def an127:FnAnn:=⟨true,[],[(0,[2]),(1,[0,3,4,5,6,7])]⟩
@[simp] def an128:FnAnn:=⟨true,[],[(0,[2]),(1,[3,4,5,6]),(2,[0,7,8,9,10,11,12]),(3,[7,13,14,15,16,17,18,19,20,21,22,23,24,25,26,27]),(4,[28,29,30,31,32]),(5,[0,28,33,34,35,36])]⟩
@[simp] def an129:FnAnn:=⟨true,[2],[(1,[0,3,4,5,6])]⟩
@[simp] def an132:FnAnn:=⟨true,[2],[(1,[0,3,4,5,6,7])]⟩
@[simp] def an139:FnAnn:=⟨true,[1],[(0,[0,2]),(1,[1,3,4,5])]⟩
@[simp] def an140:FnAnn:=⟨true,[2,4],[(0,[0]),(1,[1,2,5,6,7,8,9,10,11,12,13,14,15,16,17,18,19])]⟩
@[simp] def an144:FnAnn:=⟨true,[0],[(1,[1])]⟩
@[simp] def an145:FnAnn:=⟨true,[1],[(0,[0,2]),(1,[1,3,4,5,6,7,8,9,10,11,12,13,14,15,16,17,18,19,20,21,22,23,24,25,26,27,28,29,30])]⟩
@[simp] def an146:FnAnn:=⟨true,[2,3],[(0,[0,1,4]),(1,[2,3,5,6,7,8,9,10,11,12,13,14,15,16,17,18,19,20,21,22,23])]⟩
@[simp] def an147:FnAnn:=⟨true,[4,5,7],[(0,[1,2,6]),(1,[0,9,10,11,12,13,14]),(2,[4,5,7,8,15,16,17,18,19,20,21,22,23,24,25,26])]⟩
@[simp] def an148:FnAnn:=⟨true,[2,3],[(0,[0,1,4]),(1,[2,3,5,6,7,8,9,10,11,12,13,14,15,16,17,18,19,20,21,22,23,24,25,26])]⟩
@[simp] def an149:FnAnn:=⟨true,[3],[(0,[1,4]),(1,[0,3,5,7,8,9,10,11,12]),(2,[6,13])]⟩
@[simp] def an150:FnAnn:=⟨true,[1],[(0,[0,2]),(1,[1,3,4,5,6,7,8,9,10,11,12,13,14,15,16,17,18,19,20,21,22,23,24,25,26])]⟩
@[simp] def an151:FnAnn:=⟨true,[],[(0,[2]),(1,[0,5,6]),(3,[7,8,9]),(5,[10,13,14,15,16,17,18,19,20,21,22,23,24,25,26,27,28,29,30,31,32,33,34,35,36,37,38,39,40,41]),(6,[3,4,42]),(4,[11,12,42]),(7,[3,4,10])]⟩
@[simp] def an152:FnAnn:=⟨true,[1],[(0,[0,2]),(1,[1,3,4,5,6,7,8,9,10])]⟩
@[simp] def an153:FnAnn:=⟨true,[3,4],[(0,[1,5]),(1,[0,3,7,8,9,10,11,12]),(2,[13,14]),(3,[6,15,16]),(4,[6,15,17,18,19])]⟩
@[simp] def an154:FnAnn:=⟨true,[2,3],[(0,[0,1,4]),(1,[2,3,5,6,7,8,9,10,11,12,13,14,15,16,17,18,19,20,21])]⟩
@[simp] def an155:FnAnn:=⟨true,[3],[(0,[1,4,5]),(1,[11,12,13,14,15,16]),(2,[7,17]),(3,[0,3,6,18]),(4,[0,6,18,19,20,21,22,23,24,25,26,27,28]),(5,[3,10,29,30,31,32,33,34,35]),(6,[8,9,36,37])]⟩
@[simp] def an157:FnAnn:=⟨true,[5,6,8,9],[(0,[4]),(2,[10,11,12,13]),(3,[14,15,16,17,18,19,20,21,22,23]),(4,[0,1,6,7,24,25,26]),(5,[0,24,27,28,29,30,31,32,33,34]),(6,[35,36,37,38,39,40,41,42,43]),(7,[8,44,45,46,47,48]),(8,[44,49,50,51,52,53,54,55,56,57]),(9,[58,59,60]),(10,[8,9,61,62,63,64,65,66]),(11,[1,6,7,8,9,61,67,68])]⟩
@[simp] def an158:FnAnn:=⟨true,[2],[(0,[0,3]),(1,[1,2,4,5,6,7])]⟩
@[simp] def an159:FnAnn:=⟨true,[1],[(0,[0,2]),(1,[4,5,6]),(2,[1,3,7,8,9,10,11,12,13,14,15,16,17,18,19,20,21,22,23,24,25,26,27,28,29,30,31,32,33,34,35,36,37,38,39,40,41,42,43,44,45,46])]⟩
@[simp] def an160:FnAnn:=⟨true,[4,5,6,8,9],[(0,[1,2,7]),(1,[11,12,13,14,15,16,17,18]),(2,[0,4,5,19,20]),(3,[4,19,21]),(4,[22,23,24,25,26,27]),(5,[10,28,29,30,31,32,33,34]),(6,[9,35,36,37]),(7,[0,5,8,9,35,38])]⟩
@[simp] def an161:FnAnn:=⟨true,[4,5],[(0,[1,2,6]),(2,[12,13,14]),(3,[0,4,5,7,11]),(4,[11,16,17,18,19,20,21,22,23,24]),(5,[0,4,5,7,15]),(6,[15,26,27,28,29]),(7,[0,4,5,7,25]),(8,[25,31,32,33,34,35,36]),(9,[0,4,5,7,30]),(10,[30,37,38]),(11,[4,7,39,40,41,42,43,44,45]),(12,[8,9,46,47,48,49,50]),(13,[4,5,39,51,52,53,54,55,56]),(14,[57,58,59]),(15,[10,60,61,62]),(16,[0,7,63,64,65])]⟩
@[simp] def an162:FnAnn:=⟨true,[],[(0,[4]),(1,[0,1,5,6,7,8])]⟩
@[simp] def an163:FnAnn:=⟨true,[2],[(0,[0,3]),(1,[1,2,4,5,6,7,8])]⟩
@[simp] def an164:FnAnn:=⟨true,[3],[(0,[1,4]),(1,[0,3,5,6,7,8])]⟩
@[simp] def an165:FnAnn:=⟨true,[],[(0,[2]),(1,[3]),(2,[0,4]),(3,[0,4,5,6,7])]⟩
@[simp] def an166:FnAnn:=⟨true,[7,8],[(0,[6]),(1,[2,10,11,12,13,14,15,16,17]),(2,[9,18]),(3,[0,1,7,8,19,20]),(4,[7,19,21,22,23,24,25,26]),(5,[0,8,27,28,29,30,31,32,33,34]),(6,[1,35])]⟩
@[simp] def an167:FnAnn:=⟨true,[5],[(0,[0,2]),(1,[5,6,7,8,9]),(2,[1,10,11])]⟩
@[simp] def an168:FnAnn:=⟨true,[5],[(0,[7]),(1,[8,9,10]),(2,[11]),(3,[12,13,14,15,16,17,18,19,20]),(4,[6]),(5,[4,21,22,23,24]),(6,[0,1,5,25,26,27,28,29,30])]⟩
@[simp] def an169:FnAnn:=⟨true,[],[(0,[2]),(1,[3,4,5,6]),(2,[0,7,8,9,10,11,12]),(3,[7,13,14,15,16,17,18,19,20,21,22,23,24,25,26,27]),(4,[28,29,30,31,32]),(5,[0,28,33,34,35,36])]⟩
@[simp] def an170:FnAnn:=⟨true,[2,4],[(0,[0]),(1,[1,2,5,6,7,8,9])]⟩
@[simp] def an171:FnAnn:=⟨true,[],[(0,[2]),(1,[3,4,5,6,7,8,9,10]),(2,[11,12,13,14,15]),(3,[0,11,16])]⟩
@[simp] def an173:FnAnn:=⟨true,[2,3],[(1,[4]),(2,[0,5]),(3,[3,6]),(4,[0,5,7,8,9,10])]⟩
@[simp] def an174:FnAnn:=⟨true,[],[(0,[2]),(1,[3]),(2,[0,4]),(3,[0,4,5,6,7,8])]⟩
@[simp] def an178:FnAnn:=⟨true,[1,2],[(0,[0]),(1,[1,3,4,5,6,7,8])]⟩
@[simp] def an179:FnAnn:=⟨true,[3],[(0,[1,4,5]),(1,[0,11,12,13,14,15,16,17]),(2,[18,19,20,21,22,23,24]),(3,[8,25]),(4,[26,27,28]),(5,[26,29]),(6,[3,6,7,30]),(7,[3,6,9,30,31,32,33,34,35,36,37,38,39,40]),(8,[7,10,41,42])]⟩
@[simp] def an181:FnAnn:=⟨true,[],[(0,[2]),(2,[0]),(4,[9,10,11]),(5,[12,13]),(6,[3,5,6,7,8,14,15]),(7,[5,14,16]),(8,[3,6,7,8,9,17])]⟩
@[simp] def an182:FnAnn:=⟨true,[],[(0,[4]),(1,[7,8]),(2,[9,10]),(3,[5]),(4,[0,1,6,11]),(5,[12]),(6,[12]),(7,[6,11]),(8,[0,1,13]),(9,[13,14,15]),(10,[0,1,16]),(11,[0,1,16,17,18]),(12,[19]),(13,[19])]⟩
@[simp] def an183:FnAnn:=⟨true,[],[(0,[4]),(1,[7,8]),(2,[9,10]),(3,[5]),(4,[0,1,6,11]),(5,[12]),(6,[12]),(7,[6,11]),(8,[0,1,13]),(9,[13,14,15]),(10,[0,1,16]),(11,[0,1,16,17,18]),(12,[19]),(13,[19])]⟩
@[simp] def an184:FnAnn:=⟨true,[],[(0,[4]),(1,[7,8]),(2,[9,10]),(3,[5]),(4,[0,1,6,11]),(5,[12]),(6,[12]),(7,[6,11]),(8,[0,1,13]),(9,[13,14,15]),(10,[0,1,16]),(11,[0,1,16,17,18]),(12,[19]),(13,[19])]⟩
@[simp] def an185:FnAnn:=⟨true,[2,3],[(0,[0,1,4,5]),(1,[6,7,8,9,10,11,12,13,14,15,16,17,18,19,20,21,22,23,24,25,26]),(2,[2,3,27]),(3,[2,3,27,28,29,30,31,32,33,34])]⟩
@[simp] def an186:FnAnn:=⟨true,[3,4,9,10],[(0,[1,5]),(1,[12,13,14,15]),(2,[16,17]),(3,[0,3,6,18,19,20,21,22,23,24]),(4,[25]),(5,[7,8,26,27]),(6,[8,9,26,28,29,30,31,32,33,34,35,36]),(7,[11]),(8,[7,10,37,38]),(9,[7,10,37,39,40]),(10,[0,3,18,41]),(11,[6,42,43]),(12,[6,42,44,45])]⟩
@[simp] def an187:FnAnn:=⟨true,[3],[(0,[1,4]),(1,[8,9,10,11,12,13,14,15,16,17]),(2,[0,3,18]),(3,[6,18,19,20,21,22,23,24,25]),(4,[0,26,27,28,29,30,31,32,33]),(5,[3,5,7,34,35,36,37,38,39,40,41,42,43,44,45,46,47,48,49,50,51,52,53,54,55,56,57,58,59,60,61,62,63])]⟩
@[simp] def an188:FnAnn:=⟨true,[5],[(0,[2,6]),(1,[5,8,9,10,11,12]),(3,[21,22,23,24,25]),(4,[1,20,26,27,28,29]),(5,[20,31,32]),(6,[1,30,33,34,35,36]),(7,[30,38,39,40,41,42]),(8,[1,37,43,44,45]),(2,[1,13,14,15,16,17,18,19,37]),(9,[46,47]),(10,[48,49,50,51,52,53,54,55,56,57,58,59,60,61,62,63,64,65]),(11,[66,67,68,69]),(12,[0,7,66,70])]⟩
@[simp] def an189:FnAnn:=⟨true,[4],[(0,[8,9,10,11]),(1,[12,13,14,15,16]),(2,[12,17,18,19]),(3,[20,21,22,23,24,25,26]),(4,[7,27,28,29,30,31,32,33]),(5,[0,1,4,5,6,34,35,36,37,38,39,40,41,42,43,44])]⟩
@[simp] def an190:FnAnn:=⟨true,[],[(0,[4]),(1,[6]),(3,[9,10]),(4,[11,12,13,14,15]),(5,[0,1,5,7,8,16,17]),(6,[5,16,18]),(7,[0,1,7,8,9])]⟩
@[simp] def an191:FnAnn:=⟨true,[3],[(0,[1,4]),(1,[6]),(3,[9,10]),(4,[11,12,13,14,15]),(5,[0,3,5,7,8,16,17]),(6,[5,16,18]),(7,[0,3,7,8,9])]⟩
@[simp] def an192:FnAnn:=⟨true,[2,4,5,7,8],[(0,[0,6]),(1,[9,10,11,12,13,14,15]),(2,[1,2,16,17,18]),(3,[16,19,20]),(4,[21,22,23,24,25]),(5,[1,2,26,27,28,29,30,31,32,33,34,35,36,37,38,39,40]),(6,[7,8,41,42])]⟩
@[simp] def an193:FnAnn:=⟨true,[],[(0,[2]),(2,[3,8,9]),(1,[4,5,6,7])]⟩
@[simp] def an194:FnAnn:=⟨true,[2,3,4],[(0,[0,1,5]),(1,[6,7,8,9,10,11,12,13,14,15,16,17,18,19,20,21,22,23,24,25,26,27,28,29,30,31,32,33,34,35,36,37]),(2,[2,3,38,39]),(3,[3,38,40,41,42,43,44,45]),(4,[2,46])]⟩
@[simp] def an195:FnAnn:=⟨true,[4],[(0,[7,8,9]),(1,[10,11,12,13,14,15,16]),(2,[6]),(3,[4,5,17,18,19,20,21,22,23,24,25,26,27,28,29,30,31,32,33,34]),(4,[0,1,4,5,17,35,36,37,38,39])]⟩
@[simp] def an196:FnAnn:=⟨true,[],[(0,[2]),(1,[3,4,5,6,7,8,9,10]),(2,[11,12,13,14,15]),(3,[0,11,16])]⟩
@[simp] def an201:FnAnn:=⟨true,[],[(0,[6,7]),(1,[12,13]),(2,[14]),(3,[15,16]),(4,[17,18,19,20,21,22,23]),(5,[24,25,26,27,28,29,30]),(6,[11,31,32,33]),(7,[11,31,34]),(8,[0,1,2,8,9,10,17,35,36,37,38,39,40,41,42,43,44,45,46,47,48])]⟩
@[simp] def an202:FnAnn:=⟨true,[],[(0,[4]),(1,[0,1,5,6,7,8,9,10])]⟩
@[simp] def an207:FnAnn:=⟨true,[],[(0,[2]),(1,[0,3,4,5])]⟩
@[simp] def an208:FnAnn:=⟨true,[],[(0,[2]),(1,[0,3,4,5])]⟩
@[simp] def an209:FnAnn:=⟨true,[],[(0,[2]),(1,[0,3,4,5])]⟩
@[simp] def an210:FnAnn:=⟨true,[],[(0,[2]),(1,[4,5,6,7,8,9,10]),(2,[0,11,12,13,14]),(3,[15,16,17,18,19]),(4,[3,20,21,22,23])]⟩
@[simp] def an211:FnAnn:=⟨true,[],[(0,[6,7,8,9]),(1,[2]),(2,[0,1,10,11,12,13,14]),(3,[0,1,10,15,16,17,18])]⟩
@[simp] def an212:FnAnn:=⟨true,[],[(0,[5,6,7,8]),(1,[0,9,10,11,12]),(2,[13,14,15,16,17]),(3,[18,19,20,21,22,23,24,25]),(4,[26,27,28,29]),(5,[30,31,32,33,34,35,36,37]),(6,[30,38,39,40,41]),(7,[18,42,43,44,45,46,47,48]),(8,[49,50,51,52]),(9,[53,54,55,56,57,58,59,60]),(10,[53,61,62,63,64]),(11,[65,66,67,68]),(12,[4,69,70]),(13,[1,71,72])]⟩
@[simp] def an213:FnAnn:=⟨true,[],[(0,[4]),(1,[0,1,5,6,7,8,9,10])]⟩
@[simp] def an215:FnAnn:=⟨true,[],[(0,[2,3,4,5,6,7,8,9,10,11,12,13,14,15,16]),(1,[0,17,18,19,20,21,22,23,24,25,26,27,28,29,30,31,32,33,34,35,36,37,38,39])]⟩
@[simp] def an216:FnAnn:=⟨true,[],[(0,[6]),(1,[8,9,10,11,12,13]),(2,[14,15]),(3,[0,1,2,16,17]),(4,[16,18,19]),(5,[1,2,20,21,22,23,24,25,26]),(6,[7,27,28,29,30,31]),(7,[0,32])]⟩
@[simp] def an217:FnAnn:=⟨true,[],[(0,[5,6,7,8,9,10,11,12,13,14,15,16,17,18,19,20,21,22,23,24,25,26,27,28,29,30,31,32,33]),(1,[4,34,35,36,37,38,39]),(2,[4,41,42,43,44,45]),(3,[40,46,47,48,49,50,51]),(4,[0,40,52,53,54]),(5,[55,56,57,58,59]),(6,[1,60,61,62])]⟩
@[simp] def an223:FnAnn:=⟨true,[],[(0,[7,8,9,10]),(1,[11]),(2,[12,13,14,15,16]),(4,[12,22,23]),(5,[0,1,2,6,21,24,25,26,27]),(6,[0,1,21,29,30,31,32,33,34]),(7,[2,6,28,35,36,37,38]),(3,[2,6,17,18,19,20,28])]⟩
@[simp] def an265:FnAnn:=⟨true,[1,2],[(0,[0]),(1,[3,4]),(2,[1,5,6,7,8]),(3,[1,5,9,10,11,12,13,14,15,16])]⟩
@[simp] def an266:FnAnn:=⟨true,[2,3],[(1,[6]),(2,[0,7]),(4,[11,12,13]),(5,[5,14,15,16,17,18]),(6,[19]),(7,[3,8,9,10,11,20])]⟩
@[simp] def an267:FnAnn:=⟨true,[2,4,6],[(0,[0]),(1,[1]),(3,[10,11,12]),(4,[6,13,14,15,16,17,18,19,20,21,22,23,24,25,26]),(5,[27]),(6,[2,7,8,9,10,28])]⟩
@[simp] def an268:FnAnn:=⟨true,[2],[(1,[0,3,4,5,6,7,8,9,10,11,12,13,14,15,16])]⟩
@[simp] def an269:FnAnn:=⟨true,[],[(0,[2]),(1,[0,3]),(2,[6]),(3,[4,5]),(4,[5,8]),(5,[4,7]),(6,[4,7,10]),(7,[9]),(8,[9])]⟩
@[simp] def an270:FnAnn:=⟨true,[],[(0,[4]),(1,[0,1,5,6,7,8,9])]⟩
@[simp] def an272:FnAnn:=⟨true,[2,3,4,5],[(0,[0,1]),(1,[6,7]),(2,[9,10,11]),(3,[8,12,13]),(4,[8,15,16,17]),(5,[14,18,19,20,21,22,23]),(6,[2,3,5,14,24,25,26,27,28,29,30,31,32,33,34,35])]⟩
def annL:List (Nat×FnAnn):=[(8,an8),(10,an10),(11,an11),(13,an13),(14,an14),(15,an15),(16,an16),(17,an17),(18,an18),(19,an19),(31,an31),(42,an42),(45,an45),(46,an46),(51,an51),(55,an55),(57,an57),(58,an58),(59,an59),(60,an60),(61,an61),(62,an62),(63,an63),(64,an64),(65,an65),(66,an66),(67,an67),(68,an68),(69,an69),(70,an70),(71,an71),(78,an78),(79,an79),(80,an80),(87,an87),(88,an88),(89,an89),(90,an90),(91,an91),(92,an92),(93,an93),(94,an94),(95,an95),(96,an96),(97,an97),(98,an98),(99,an99),(100,an100),(102,an102),(104,an104),(111,an111),(113,an113),(114,an114),(115,an115),(116,an116),(117,an117),(118,an118),(119,an119),(120,an120),(121,an121),(122,an122),(123,an123),(124,an124),(125,an125),(126,an126),(127,an127),(128,an128),(129,an129),(132,an132),(139,an139),(140,an140),(144,an144),(145,an145),(146,an146),(147,an147),(148,an148),(149,an149),(150,an150),(151,an151),(152,an152),(153,an153),(154,an154),(155,an155),(157,an157),(158,an158),(159,an159),(160,an160),(161,an161),(162,an162),(163,an163),(164,an164),(165,an165),(166,an166),(167,an167),(168,an168),(169,an169),(170,an170),(171,an171),(173,an173),(174,an174),(178,an178),(179,an179),(181,an181),(182,an182),(183,an183),(184,an184),(185,an185),(186,an186),(187,an187),(188,an188),(189,an189),(190,an190),(191,an191),(192,an192),(193,an193),(194,an194),(195,an195),(196,an196),(201,an201),(202,an202),(207,an207),(208,an208),(209,an209),(210,an210),(211,an211),(212,an212),(213,an213),(215,an215),(216,an216),(217,an217),(223,an223),(265,an265),(266,an266),(267,an267),(268,an268),(269,an269),(270,an270),(272,an272)]
def eqL:Nat→Bool:=fun t=>([55,70,88,178]:List Nat).contains t
def primL (f:Nat):Option Prim:=if f=130 then some bldWriteP else if f=131 then some bldStringP else if f=180 then some sortedP else if f=214 then some insP else none
noncomputable def cfg:Cfg:=⟨Tryz.prog,annOf annL,eqL,primL,fun _=>none,fun t=>t == 217⟩
theorem okAll:annL.all (fnOk Tryz.prog)=true:=by kernel_rfl
theorem eqsOk:([55,70,88,178]:List Nat).all (fun t=>!Tryz.prog.stoodInHeld t && !Tryz.prog.eqGuardType Tryz.prog.depth t)=true:=by kernel_rfl
theorem eqsAll:∀t,eqL t=true→Tryz.prog.stoodInHeld t=false∧Tryz.prog.eqGuardType Tryz.prog.depth t=false:=by
 intro t h
 have h1:=List.all_eq_true.1 eqsOk t (by simpa [eqL] using h)
 simpa using h1
theorem primsOk:∀(F:Fix),F.c.P=Tryz.prog→F.Ok→∀f g,primL f=some g→∀args h v h',g args h=.ok (v,h')→h.next≤h'.next∧
 ∀ι w (av:Array Value),Rel F ι h w→VRels ι F.ρ args av.toList→Fresh ι h.next h'.next→CallTo F.c.P f av w (Out F ι h w v h'):=by
 intro F hP hok f g hg
 unfold primL at hg
 split at hg
 · rename_i hf;subst hf;cases hg;exact bldWriteP_sound F hP hok
 split at hg
 · rename_i hf;subst hf;cases hg;exact bldStringP_sound F hP hok
 split at hg
 · rename_i hf;subst hf;cases hg;exact sortedP_sound F hP hok
 split at hg
 · rename_i hf;subst hf;cases hg;exact insP_sound F hP hok
 cases hg
theorem sureC:SureC cfg:=⟨eqsAll,code_of okAll,primsOk,Tryz.checked.mixed⟩
theorem covAll:coverAll Tryz.prog=true:=by kernel_rfl
noncomputable def cfgR (ro:Nat→Option (List AVal)):Cfg:={ cfg with ro:=ro }
section
variable {ro:Nat→Option (List AVal)}
@[simp] theorem cfgP:(cfgR ro).P=Tryz.prog:=rfl
@[simp] theorem cfgRo:(cfgR ro).ro=ro:=rfl
@[simp] theorem cfgEq:(cfgR ro).eqOk=eqL:=rfl
@[simp] theorem cfgBld (t:Nat):(cfgR ro).bld t=(t == 217):=rfl
@[simp] theorem ann8:(cfgR ro).ann 8=an8:=rfl
@[simp] theorem ann10:(cfgR ro).ann 10=an10:=rfl
@[simp] theorem ann11:(cfgR ro).ann 11=an11:=rfl
@[simp] theorem ann13:(cfgR ro).ann 13=an13:=rfl
@[simp] theorem ann14:(cfgR ro).ann 14=an14:=rfl
@[simp] theorem ann15:(cfgR ro).ann 15=an15:=rfl
@[simp] theorem ann16:(cfgR ro).ann 16=an16:=rfl
@[simp] theorem ann17:(cfgR ro).ann 17=an17:=rfl
@[simp] theorem ann18:(cfgR ro).ann 18=an18:=rfl
@[simp] theorem ann19:(cfgR ro).ann 19=an19:=rfl
@[simp] theorem ann31:(cfgR ro).ann 31=an31:=rfl
@[simp] theorem ann42:(cfgR ro).ann 42=an42:=rfl
@[simp] theorem ann45:(cfgR ro).ann 45=an45:=rfl
@[simp] theorem ann46:(cfgR ro).ann 46=an46:=rfl
@[simp] theorem ann51:(cfgR ro).ann 51=an51:=rfl
@[simp] theorem ann55:(cfgR ro).ann 55=an55:=rfl
@[simp] theorem ann57:(cfgR ro).ann 57=an57:=rfl
@[simp] theorem ann58:(cfgR ro).ann 58=an58:=rfl
@[simp] theorem ann59:(cfgR ro).ann 59=an59:=rfl
@[simp] theorem ann60:(cfgR ro).ann 60=an60:=rfl
@[simp] theorem ann61:(cfgR ro).ann 61=an61:=rfl
@[simp] theorem ann62:(cfgR ro).ann 62=an62:=rfl
@[simp] theorem ann63:(cfgR ro).ann 63=an63:=rfl
@[simp] theorem ann64:(cfgR ro).ann 64=an64:=rfl
@[simp] theorem ann65:(cfgR ro).ann 65=an65:=rfl
@[simp] theorem ann66:(cfgR ro).ann 66=an66:=rfl
@[simp] theorem ann67:(cfgR ro).ann 67=an67:=rfl
@[simp] theorem ann68:(cfgR ro).ann 68=an68:=rfl
@[simp] theorem ann69:(cfgR ro).ann 69=an69:=rfl
@[simp] theorem ann70:(cfgR ro).ann 70=an70:=rfl
@[simp] theorem ann71:(cfgR ro).ann 71=an71:=rfl
@[simp] theorem ann78:(cfgR ro).ann 78=an78:=rfl
@[simp] theorem ann79:(cfgR ro).ann 79=an79:=rfl
@[simp] theorem ann80:(cfgR ro).ann 80=an80:=rfl
@[simp] theorem ann87:(cfgR ro).ann 87=an87:=rfl
@[simp] theorem ann88:(cfgR ro).ann 88=an88:=rfl
@[simp] theorem ann89:(cfgR ro).ann 89=an89:=rfl
@[simp] theorem ann90:(cfgR ro).ann 90=an90:=rfl
@[simp] theorem ann91:(cfgR ro).ann 91=an91:=rfl
@[simp] theorem ann92:(cfgR ro).ann 92=an92:=rfl
@[simp] theorem ann93:(cfgR ro).ann 93=an93:=rfl
@[simp] theorem ann94:(cfgR ro).ann 94=an94:=rfl
@[simp] theorem ann95:(cfgR ro).ann 95=an95:=rfl
@[simp] theorem ann96:(cfgR ro).ann 96=an96:=rfl
@[simp] theorem ann97:(cfgR ro).ann 97=an97:=rfl
@[simp] theorem ann98:(cfgR ro).ann 98=an98:=rfl
@[simp] theorem ann99:(cfgR ro).ann 99=an99:=rfl
@[simp] theorem ann100:(cfgR ro).ann 100=an100:=rfl
@[simp] theorem ann102:(cfgR ro).ann 102=an102:=rfl
@[simp] theorem ann104:(cfgR ro).ann 104=an104:=rfl
@[simp] theorem ann111:(cfgR ro).ann 111=an111:=rfl
@[simp] theorem ann113:(cfgR ro).ann 113=an113:=rfl
@[simp] theorem ann114:(cfgR ro).ann 114=an114:=rfl
@[simp] theorem ann115:(cfgR ro).ann 115=an115:=rfl
@[simp] theorem ann116:(cfgR ro).ann 116=an116:=rfl
@[simp] theorem ann117:(cfgR ro).ann 117=an117:=rfl
@[simp] theorem ann118:(cfgR ro).ann 118=an118:=rfl
@[simp] theorem ann119:(cfgR ro).ann 119=an119:=rfl
@[simp] theorem ann120:(cfgR ro).ann 120=an120:=rfl
@[simp] theorem ann121:(cfgR ro).ann 121=an121:=rfl
@[simp] theorem ann122:(cfgR ro).ann 122=an122:=rfl
@[simp] theorem ann123:(cfgR ro).ann 123=an123:=rfl
@[simp] theorem ann124:(cfgR ro).ann 124=an124:=rfl
@[simp] theorem ann125:(cfgR ro).ann 125=an125:=rfl
@[simp] theorem ann126:(cfgR ro).ann 126=an126:=rfl
@[simp] theorem ann127:(cfgR ro).ann 127=an127:=rfl
@[simp] theorem ann128:(cfgR ro).ann 128=an128:=rfl
@[simp] theorem ann129:(cfgR ro).ann 129=an129:=rfl
@[simp] theorem ann132:(cfgR ro).ann 132=an132:=rfl
@[simp] theorem ann139:(cfgR ro).ann 139=an139:=rfl
@[simp] theorem ann140:(cfgR ro).ann 140=an140:=rfl
@[simp] theorem ann144:(cfgR ro).ann 144=an144:=rfl
@[simp] theorem ann145:(cfgR ro).ann 145=an145:=rfl
@[simp] theorem ann146:(cfgR ro).ann 146=an146:=rfl
@[simp] theorem ann147:(cfgR ro).ann 147=an147:=rfl
@[simp] theorem ann148:(cfgR ro).ann 148=an148:=rfl
@[simp] theorem ann149:(cfgR ro).ann 149=an149:=rfl
@[simp] theorem ann150:(cfgR ro).ann 150=an150:=rfl
@[simp] theorem ann151:(cfgR ro).ann 151=an151:=rfl
@[simp] theorem ann152:(cfgR ro).ann 152=an152:=rfl
@[simp] theorem ann153:(cfgR ro).ann 153=an153:=rfl
@[simp] theorem ann154:(cfgR ro).ann 154=an154:=rfl
@[simp] theorem ann155:(cfgR ro).ann 155=an155:=rfl
@[simp] theorem ann157:(cfgR ro).ann 157=an157:=rfl
@[simp] theorem ann158:(cfgR ro).ann 158=an158:=rfl
@[simp] theorem ann159:(cfgR ro).ann 159=an159:=rfl
@[simp] theorem ann160:(cfgR ro).ann 160=an160:=rfl
@[simp] theorem ann161:(cfgR ro).ann 161=an161:=rfl
@[simp] theorem ann162:(cfgR ro).ann 162=an162:=rfl
@[simp] theorem ann163:(cfgR ro).ann 163=an163:=rfl
@[simp] theorem ann164:(cfgR ro).ann 164=an164:=rfl
@[simp] theorem ann165:(cfgR ro).ann 165=an165:=rfl
@[simp] theorem ann166:(cfgR ro).ann 166=an166:=rfl
@[simp] theorem ann167:(cfgR ro).ann 167=an167:=rfl
@[simp] theorem ann168:(cfgR ro).ann 168=an168:=rfl
@[simp] theorem ann169:(cfgR ro).ann 169=an169:=rfl
@[simp] theorem ann170:(cfgR ro).ann 170=an170:=rfl
@[simp] theorem ann171:(cfgR ro).ann 171=an171:=rfl
@[simp] theorem ann173:(cfgR ro).ann 173=an173:=rfl
@[simp] theorem ann174:(cfgR ro).ann 174=an174:=rfl
@[simp] theorem ann178:(cfgR ro).ann 178=an178:=rfl
@[simp] theorem ann179:(cfgR ro).ann 179=an179:=rfl
@[simp] theorem ann181:(cfgR ro).ann 181=an181:=rfl
@[simp] theorem ann182:(cfgR ro).ann 182=an182:=rfl
@[simp] theorem ann183:(cfgR ro).ann 183=an183:=rfl
@[simp] theorem ann184:(cfgR ro).ann 184=an184:=rfl
@[simp] theorem ann185:(cfgR ro).ann 185=an185:=rfl
@[simp] theorem ann186:(cfgR ro).ann 186=an186:=rfl
@[simp] theorem ann187:(cfgR ro).ann 187=an187:=rfl
@[simp] theorem ann188:(cfgR ro).ann 188=an188:=rfl
@[simp] theorem ann189:(cfgR ro).ann 189=an189:=rfl
@[simp] theorem ann190:(cfgR ro).ann 190=an190:=rfl
@[simp] theorem ann191:(cfgR ro).ann 191=an191:=rfl
@[simp] theorem ann192:(cfgR ro).ann 192=an192:=rfl
@[simp] theorem ann193:(cfgR ro).ann 193=an193:=rfl
@[simp] theorem ann194:(cfgR ro).ann 194=an194:=rfl
@[simp] theorem ann195:(cfgR ro).ann 195=an195:=rfl
@[simp] theorem ann196:(cfgR ro).ann 196=an196:=rfl
@[simp] theorem ann201:(cfgR ro).ann 201=an201:=rfl
@[simp] theorem ann202:(cfgR ro).ann 202=an202:=rfl
@[simp] theorem ann207:(cfgR ro).ann 207=an207:=rfl
@[simp] theorem ann208:(cfgR ro).ann 208=an208:=rfl
@[simp] theorem ann209:(cfgR ro).ann 209=an209:=rfl
@[simp] theorem ann210:(cfgR ro).ann 210=an210:=rfl
@[simp] theorem ann211:(cfgR ro).ann 211=an211:=rfl
@[simp] theorem ann212:(cfgR ro).ann 212=an212:=rfl
@[simp] theorem ann213:(cfgR ro).ann 213=an213:=rfl
@[simp] theorem ann215:(cfgR ro).ann 215=an215:=rfl
@[simp] theorem ann216:(cfgR ro).ann 216=an216:=rfl
@[simp] theorem ann217:(cfgR ro).ann 217=an217:=rfl
@[simp] theorem ann223:(cfgR ro).ann 223=an223:=rfl
@[simp] theorem ann265:(cfgR ro).ann 265=an265:=rfl
@[simp] theorem ann266:(cfgR ro).ann 266=an266:=rfl
@[simp] theorem ann267:(cfgR ro).ann 267=an267:=rfl
@[simp] theorem ann268:(cfgR ro).ann 268=an268:=rfl
@[simp] theorem ann269:(cfgR ro).ann 269=an269:=rfl
@[simp] theorem ann270:(cfgR ro).ann 270=an270:=rfl
@[simp] theorem ann272:(cfgR ro).ann 272=an272:=rfl
end
@[simp] theorem sz3:sizeR Tryz.prog 3=.ok 1:=by kernel_rfl
@[simp] theorem ag3:isAggR Tryz.prog 3=.ok false:=by kernel_rfl
@[simp] theorem zv3:zeroV Tryz.prog 3=.ok (.int .i64 0):=by kernel_rfl
@[simp] theorem zc3:zeroCellsR Tryz.prog 3=.ok [.int .i64 0]:=by kernel_rfl
@[simp] theorem un3:undR Tryz.prog 3=.ok (.int .i64):=by kernel_rfl
@[simp] theorem nm3:notMake Tryz.prog (some 3)=.err 130:=by kernel_rfl
@[simp] theorem sz4:sizeR Tryz.prog 4=.ok 1:=by kernel_rfl
@[simp] theorem ag4:isAggR Tryz.prog 4=.ok false:=by kernel_rfl
@[simp] theorem zv4:zeroV Tryz.prog 4=.ok (.bool false):=by kernel_rfl
@[simp] theorem zc4:zeroCellsR Tryz.prog 4=.ok [.bool false]:=by kernel_rfl
@[simp] theorem un4:undR Tryz.prog 4=.ok .bool:=by kernel_rfl
@[simp] theorem nm4:notMake Tryz.prog (some 4)=.ok ():=by kernel_rfl
@[simp] theorem sz5:sizeR Tryz.prog 5=.ok 1:=by kernel_rfl
@[simp] theorem ag5:isAggR Tryz.prog 5=.ok false:=by kernel_rfl
@[simp] theorem zv5:zeroV Tryz.prog 5=.ok (.int .u8 0):=by kernel_rfl
@[simp] theorem zc5:zeroCellsR Tryz.prog 5=.ok [.int .u8 0]:=by kernel_rfl
@[simp] theorem un5:undR Tryz.prog 5=.ok (.int .u8):=by kernel_rfl
@[simp] theorem nm5:notMake Tryz.prog (some 5)=.err 130:=by kernel_rfl
@[simp] theorem sz9:sizeR Tryz.prog 9=.ok 1:=by kernel_rfl
@[simp] theorem ag9:isAggR Tryz.prog 9=.ok false:=by kernel_rfl
@[simp] theorem zv9:zeroV Tryz.prog 9=.ok (.str []):=by kernel_rfl
@[simp] theorem zc9:zeroCellsR Tryz.prog 9=.ok [.str []]:=by kernel_rfl
@[simp] theorem un9:undR Tryz.prog 9=.ok .string:=by kernel_rfl
@[simp] theorem nm9:notMake Tryz.prog (some 9)=.ok ():=by kernel_rfl
@[simp] theorem sz20:sizeR Tryz.prog 20=.ok 1:=by kernel_rfl
@[simp] theorem ag20:isAggR Tryz.prog 20=.ok false:=by kernel_rfl
@[simp] theorem zv20:zeroV Tryz.prog 20=.ok (.nili):=by kernel_rfl
@[simp] theorem zc20:zeroCellsR Tryz.prog 20=.ok [.nili]:=by kernel_rfl
@[simp] theorem nm20:notMake Tryz.prog (some 20)=.ok ():=by kernel_rfl
@[simp] theorem sz22:sizeR Tryz.prog 22=.ok 1:=by kernel_rfl
@[simp] theorem ag22:isAggR Tryz.prog 22=.ok false:=by kernel_rfl
@[simp] theorem zv22:zeroV Tryz.prog 22=.ok (.nils):=by kernel_rfl
@[simp] theorem zc22:zeroCellsR Tryz.prog 22=.ok [.nils]:=by kernel_rfl
@[simp] theorem un22:undR Tryz.prog 22=.ok (.slice 53):=by kernel_rfl
@[simp] theorem el22:elemSl Tryz.prog 22=.ok 53:=by kernel_rfl
@[simp] theorem nm22:notMake Tryz.prog (some 22)=.ok ():=by kernel_rfl
@[simp] theorem sz25:sizeR Tryz.prog 25=.ok 1:=by kernel_rfl
@[simp] theorem ag25:isAggR Tryz.prog 25=.ok false:=by kernel_rfl
@[simp] theorem zv25:zeroV Tryz.prog 25=.ok (.nilp):=by kernel_rfl
@[simp] theorem zc25:zeroCellsR Tryz.prog 25=.ok [.nilp]:=by kernel_rfl
@[simp] theorem un25:undR Tryz.prog 25=.ok (.pointer 259):=by kernel_rfl
@[simp] theorem nm25:notMake Tryz.prog (some 25)=.ok ():=by kernel_rfl
@[simp] theorem sz26:sizeR Tryz.prog 26=.ok 1:=by kernel_rfl
@[simp] theorem ag26:isAggR Tryz.prog 26=.ok false:=by kernel_rfl
@[simp] theorem zv26:zeroV Tryz.prog 26=.ok (.int .u64 0):=by kernel_rfl
@[simp] theorem zc26:zeroCellsR Tryz.prog 26=.ok [.int .u64 0]:=by kernel_rfl
@[simp] theorem un26:undR Tryz.prog 26=.ok (.int .u64):=by kernel_rfl
@[simp] theorem nm26:notMake Tryz.prog (some 26)=.err 130:=by kernel_rfl
@[simp] theorem sz28:sizeR Tryz.prog 28=.ok 2:=by kernel_rfl
@[simp] theorem ag28:isAggR Tryz.prog 28=.ok true:=by kernel_rfl
@[simp] theorem zv28:zeroV Tryz.prog 28=.ok (.agg [.nilp,.int .u64 0]):=by kernel_rfl
@[simp] theorem zc28:zeroCellsR Tryz.prog 28=.ok [.nilp,.int .u64 0]:=by kernel_rfl
@[simp] theorem nm28:notMake Tryz.prog (some 28)=.ok ():=by kernel_rfl
@[simp] theorem sz29:sizeR Tryz.prog 29=.ok 1:=by kernel_rfl
@[simp] theorem ag29:isAggR Tryz.prog 29=.ok false:=by kernel_rfl
@[simp] theorem zv29:zeroV Tryz.prog 29=.ok (.nilm):=by kernel_rfl
@[simp] theorem zc29:zeroCellsR Tryz.prog 29=.ok [.nilm]:=by kernel_rfl
@[simp] theorem un29:undR Tryz.prog 29=.ok (.map 47 270):=by kernel_rfl
@[simp] theorem nm29:notMake Tryz.prog (some 29)=.ok ():=by kernel_rfl
@[simp] theorem mt29:mapTypes Tryz.prog 29=.ok (47,270):=by kernel_rfl
@[simp] theorem sz31:sizeR Tryz.prog 31=.ok 3:=by kernel_rfl
@[simp] theorem ag31:isAggR Tryz.prog 31=.ok true:=by kernel_rfl
@[simp] theorem zv31:zeroV Tryz.prog 31=.ok (.agg [.nilp,.int .u64 0,.nilm]):=by kernel_rfl
@[simp] theorem zc31:zeroCellsR Tryz.prog 31=.ok [.nilp,.int .u64 0,.nilm]:=by kernel_rfl
@[simp] theorem nm31:notMake Tryz.prog (some 31)=.ok ():=by kernel_rfl
@[simp] theorem sz32:sizeR Tryz.prog 32=.ok 1:=by kernel_rfl
@[simp] theorem ag32:isAggR Tryz.prog 32=.ok false:=by kernel_rfl
@[simp] theorem zv32:zeroV Tryz.prog 32=.ok (.nilm):=by kernel_rfl
@[simp] theorem zc32:zeroCellsR Tryz.prog 32=.ok [.nilm]:=by kernel_rfl
@[simp] theorem un32:undR Tryz.prog 32=.ok (.map 55 210):=by kernel_rfl
@[simp] theorem nm32:notMake Tryz.prog (some 32)=.ok ():=by kernel_rfl
@[simp] theorem mt32:mapTypes Tryz.prog 32=.ok (55,210):=by kernel_rfl
@[simp] theorem sz34:sizeR Tryz.prog 34=.ok 2:=by kernel_rfl
@[simp] theorem ag34:isAggR Tryz.prog 34=.ok true:=by kernel_rfl
@[simp] theorem zv34:zeroV Tryz.prog 34=.ok (.agg [.nilm,.int .i64 0]):=by kernel_rfl
@[simp] theorem zc34:zeroCellsR Tryz.prog 34=.ok [.nilm,.int .i64 0]:=by kernel_rfl
@[simp] theorem nm34:notMake Tryz.prog (some 34)=.ok ():=by kernel_rfl
@[simp] theorem sz35:sizeR Tryz.prog 35=.ok 1:=by kernel_rfl
@[simp] theorem ag35:isAggR Tryz.prog 35=.ok false:=by kernel_rfl
@[simp] theorem zv35:zeroV Tryz.prog 35=.ok (.nilm):=by kernel_rfl
@[simp] theorem zc35:zeroCellsR Tryz.prog 35=.ok [.nilm]:=by kernel_rfl
@[simp] theorem un35:undR Tryz.prog 35=.ok (.map 70 194):=by kernel_rfl
@[simp] theorem nm35:notMake Tryz.prog (some 35)=.ok ():=by kernel_rfl
@[simp] theorem mt35:mapTypes Tryz.prog 35=.ok (70,194):=by kernel_rfl
@[simp] theorem sz36:sizeR Tryz.prog 36=.ok 1:=by kernel_rfl
@[simp] theorem ag36:isAggR Tryz.prog 36=.ok false:=by kernel_rfl
@[simp] theorem zv36:zeroV Tryz.prog 36=.ok (.nilm):=by kernel_rfl
@[simp] theorem zc36:zeroCellsR Tryz.prog 36=.ok [.nilm]:=by kernel_rfl
@[simp] theorem un36:undR Tryz.prog 36=.ok (.map 55 206):=by kernel_rfl
@[simp] theorem nm36:notMake Tryz.prog (some 36)=.ok ():=by kernel_rfl
@[simp] theorem mt36:mapTypes Tryz.prog 36=.ok (55,206):=by kernel_rfl
@[simp] theorem sz38:sizeR Tryz.prog 38=.ok 2:=by kernel_rfl
@[simp] theorem ag38:isAggR Tryz.prog 38=.ok true:=by kernel_rfl
@[simp] theorem zv38:zeroV Tryz.prog 38=.ok (.agg [.nilm,.nilm]):=by kernel_rfl
@[simp] theorem zc38:zeroCellsR Tryz.prog 38=.ok [.nilm,.nilm]:=by kernel_rfl
@[simp] theorem nm38:notMake Tryz.prog (some 38)=.ok ():=by kernel_rfl
@[simp] theorem sz40:sizeR Tryz.prog 40=.ok 9:=by kernel_rfl
@[simp] theorem ag40:isAggR Tryz.prog 40=.ok true:=by kernel_rfl
@[simp] theorem zv40:zeroV Tryz.prog 40=.ok (.agg [.nilp,.int .u64 0,.nilm,.nilm,.int .i64 0,.nilm,.nilm,.int .u64 0,.int .i64 0]):=by kernel_rfl
@[simp] theorem zc40:zeroCellsR Tryz.prog 40=.ok [.nilp,.int .u64 0,.nilm,.nilm,.int .i64 0,.nilm,.nilm,.int .u64 0,.int .i64 0]:=by kernel_rfl
@[simp] theorem nm40:notMake Tryz.prog (some 40)=.ok ():=by kernel_rfl
@[simp] theorem sz41:sizeR Tryz.prog 41=.ok 1:=by kernel_rfl
@[simp] theorem ag41:isAggR Tryz.prog 41=.ok false:=by kernel_rfl
@[simp] theorem zv41:zeroV Tryz.prog 41=.ok (.int .u32 0):=by kernel_rfl
@[simp] theorem zc41:zeroCellsR Tryz.prog 41=.ok [.int .u32 0]:=by kernel_rfl
@[simp] theorem un41:undR Tryz.prog 41=.ok (.int .u32):=by kernel_rfl
@[simp] theorem nm41:notMake Tryz.prog (some 41)=.err 130:=by kernel_rfl
@[simp] theorem sz45:sizeR Tryz.prog 45=.ok 1:=by kernel_rfl
@[simp] theorem ag45:isAggR Tryz.prog 45=.ok false:=by kernel_rfl
@[simp] theorem zv45:zeroV Tryz.prog 45=.ok (.nils):=by kernel_rfl
@[simp] theorem zc45:zeroCellsR Tryz.prog 45=.ok [.nils]:=by kernel_rfl
@[simp] theorem un45:undR Tryz.prog 45=.ok (.slice 64):=by kernel_rfl
@[simp] theorem el45:elemSl Tryz.prog 45=.ok 64:=by kernel_rfl
@[simp] theorem nm45:notMake Tryz.prog (some 45)=.ok ():=by kernel_rfl
@[simp] theorem sz47:sizeR Tryz.prog 47=.ok 1:=by kernel_rfl
@[simp] theorem ag47:isAggR Tryz.prog 47=.ok false:=by kernel_rfl
@[simp] theorem zv47:zeroV Tryz.prog 47=.ok (.int .u16 0):=by kernel_rfl
@[simp] theorem zc47:zeroCellsR Tryz.prog 47=.ok [.int .u16 0]:=by kernel_rfl
@[simp] theorem un47:undR Tryz.prog 47=.ok (.int .u16):=by kernel_rfl
@[simp] theorem nm47:notMake Tryz.prog (some 47)=.err 130:=by kernel_rfl
@[simp] theorem sz48:sizeR Tryz.prog 48=.ok 1:=by kernel_rfl
@[simp] theorem ag48:isAggR Tryz.prog 48=.ok false:=by kernel_rfl
@[simp] theorem zv48:zeroV Tryz.prog 48=.ok (.nils):=by kernel_rfl
@[simp] theorem zc48:zeroCellsR Tryz.prog 48=.ok [.nils]:=by kernel_rfl
@[simp] theorem un48:undR Tryz.prog 48=.ok (.slice 58):=by kernel_rfl
@[simp] theorem el48:elemSl Tryz.prog 48=.ok 58:=by kernel_rfl
@[simp] theorem nm48:notMake Tryz.prog (some 48)=.ok ():=by kernel_rfl
@[simp] theorem sz50:sizeR Tryz.prog 50=.ok 5:=by kernel_rfl
@[simp] theorem ag50:isAggR Tryz.prog 50=.ok true:=by kernel_rfl
@[simp] theorem zv50:zeroV Tryz.prog 50=.ok (.agg [.int .u16 0,.int .u32 0,.int .u64 0,.int .i64 0,.nils]):=by kernel_rfl
@[simp] theorem zc50:zeroCellsR Tryz.prog 50=.ok [.int .u16 0,.int .u32 0,.int .u64 0,.int .i64 0,.nils]:=by kernel_rfl
@[simp] theorem nm50:notMake Tryz.prog (some 50)=.ok ():=by kernel_rfl
@[simp] theorem sz53:sizeR Tryz.prog 53=.ok 5:=by kernel_rfl
@[simp] theorem ag53:isAggR Tryz.prog 53=.ok true:=by kernel_rfl
@[simp] theorem zv53:zeroV Tryz.prog 53=.ok (.agg [.int .i64 0,.int .i64 0,.int .i64 0,.int .i64 0,.str []]):=by kernel_rfl
@[simp] theorem zc53:zeroCellsR Tryz.prog 53=.ok [.int .i64 0,.int .i64 0,.int .i64 0,.int .i64 0,.str []]:=by kernel_rfl
@[simp] theorem nm53:notMake Tryz.prog (some 53)=.ok ():=by kernel_rfl
@[simp] theorem sz55:sizeR Tryz.prog 55=.ok 2:=by kernel_rfl
@[simp] theorem ag55:isAggR Tryz.prog 55=.ok true:=by kernel_rfl
@[simp] theorem zv55:zeroV Tryz.prog 55=.ok (.agg [.int .u16 0,.int .u32 0]):=by kernel_rfl
@[simp] theorem zc55:zeroCellsR Tryz.prog 55=.ok [.int .u16 0,.int .u32 0]:=by kernel_rfl
@[simp] theorem nm55:notMake Tryz.prog (some 55)=.ok ():=by kernel_rfl
@[simp] theorem sz56:sizeR Tryz.prog 56=.ok 1:=by kernel_rfl
@[simp] theorem ag56:isAggR Tryz.prog 56=.ok false:=by kernel_rfl
@[simp] theorem zv56:zeroV Tryz.prog 56=.ok (.nils):=by kernel_rfl
@[simp] theorem zc56:zeroCellsR Tryz.prog 56=.ok [.nils]:=by kernel_rfl
@[simp] theorem un56:undR Tryz.prog 56=.ok (.slice 157):=by kernel_rfl
@[simp] theorem el56:elemSl Tryz.prog 56=.ok 157:=by kernel_rfl
@[simp] theorem nm56:notMake Tryz.prog (some 56)=.ok ():=by kernel_rfl
@[simp] theorem sz58:sizeR Tryz.prog 58=.ok 7:=by kernel_rfl
@[simp] theorem ag58:isAggR Tryz.prog 58=.ok true:=by kernel_rfl
@[simp] theorem zv58:zeroV Tryz.prog 58=.ok (.agg [.int .i64 0,.int .u16 0,.int .u32 0,.int .u32 0,.str [],.nils,.int .u32 0]):=by kernel_rfl
@[simp] theorem zc58:zeroCellsR Tryz.prog 58=.ok [.int .i64 0,.int .u16 0,.int .u32 0,.int .u32 0,.str [],.nils,.int .u32 0]:=by kernel_rfl
@[simp] theorem nm58:notMake Tryz.prog (some 58)=.ok ():=by kernel_rfl
@[simp] theorem sz60:sizeR Tryz.prog 60=.ok 1:=by kernel_rfl
@[simp] theorem ag60:isAggR Tryz.prog 60=.ok false:=by kernel_rfl
@[simp] theorem zv60:zeroV Tryz.prog 60=.ok (.nilp):=by kernel_rfl
@[simp] theorem zc60:zeroCellsR Tryz.prog 60=.ok [.nilp]:=by kernel_rfl
@[simp] theorem un60:undR Tryz.prog 60=.ok (.pointer 40):=by kernel_rfl
@[simp] theorem nm60:notMake Tryz.prog (some 60)=.ok ():=by kernel_rfl
@[simp] theorem sz64:sizeR Tryz.prog 64=.ok 5:=by kernel_rfl
@[simp] theorem ag64:isAggR Tryz.prog 64=.ok true:=by kernel_rfl
@[simp] theorem zv64:zeroV Tryz.prog 64=.ok (.agg [.int .i64 0,.int .i64 0,.int .i64 0,.int .i64 0,.str []]):=by kernel_rfl
@[simp] theorem zc64:zeroCellsR Tryz.prog 64=.ok [.int .i64 0,.int .i64 0,.int .i64 0,.int .i64 0,.str []]:=by kernel_rfl
@[simp] theorem nm64:notMake Tryz.prog (some 64)=.ok ():=by kernel_rfl
@[simp] theorem sz70:sizeR Tryz.prog 70=.ok 2:=by kernel_rfl
@[simp] theorem ag70:isAggR Tryz.prog 70=.ok true:=by kernel_rfl
@[simp] theorem zv70:zeroV Tryz.prog 70=.ok (.agg [.int .u16 0,.int .u32 0]):=by kernel_rfl
@[simp] theorem zc70:zeroCellsR Tryz.prog 70=.ok [.int .u16 0,.int .u32 0]:=by kernel_rfl
@[simp] theorem nm70:notMake Tryz.prog (some 70)=.ok ():=by kernel_rfl
@[simp] theorem sz77:sizeR Tryz.prog 77=.ok 1:=by kernel_rfl
@[simp] theorem ag77:isAggR Tryz.prog 77=.ok false:=by kernel_rfl
@[simp] theorem zv77:zeroV Tryz.prog 77=.ok (.nilf):=by kernel_rfl
@[simp] theorem zc77:zeroCellsR Tryz.prog 77=.ok [.nilf]:=by kernel_rfl
@[simp] theorem nm77:notMake Tryz.prog (some 77)=.ok ():=by kernel_rfl
@[simp] theorem sz85:sizeR Tryz.prog 85=.ok 1:=by kernel_rfl
@[simp] theorem ag85:isAggR Tryz.prog 85=.ok false:=by kernel_rfl
@[simp] theorem zv85:zeroV Tryz.prog 85=.ok (.int .i64 0):=by kernel_rfl
@[simp] theorem zc85:zeroCellsR Tryz.prog 85=.ok [.int .i64 0]:=by kernel_rfl
@[simp] theorem un85:undR Tryz.prog 85=.ok (.int .i64):=by kernel_rfl
@[simp] theorem nm85:notMake Tryz.prog (some 85)=.err 130:=by kernel_rfl
@[simp] theorem sz88:sizeR Tryz.prog 88=.ok 3:=by kernel_rfl
@[simp] theorem ag88:isAggR Tryz.prog 88=.ok true:=by kernel_rfl
@[simp] theorem zv88:zeroV Tryz.prog 88=.ok (.agg [.int .u64 0,.int .u16 0,.int .u32 0]):=by kernel_rfl
@[simp] theorem zc88:zeroCellsR Tryz.prog 88=.ok [.int .u64 0,.int .u16 0,.int .u32 0]:=by kernel_rfl
@[simp] theorem nm88:notMake Tryz.prog (some 88)=.ok ():=by kernel_rfl
@[simp] theorem sz90:sizeR Tryz.prog 90=.ok 7:=by kernel_rfl
@[simp] theorem ag90:isAggR Tryz.prog 90=.ok true:=by kernel_rfl
@[simp] theorem zv90:zeroV Tryz.prog 90=.ok (.agg [.int .u64 0,.int .u16 0,.int .u32 0,.int .u16 0,.int .u32 0,.int .u8 0,.bool false]):=by kernel_rfl
@[simp] theorem zc90:zeroCellsR Tryz.prog 90=.ok [.int .u64 0,.int .u16 0,.int .u32 0,.int .u16 0,.int .u32 0,.int .u8 0,.bool false]:=by kernel_rfl
@[simp] theorem nm90:notMake Tryz.prog (some 90)=.ok ():=by kernel_rfl
@[simp] theorem sz102:sizeR Tryz.prog 102=.ok 1:=by kernel_rfl
@[simp] theorem ag102:isAggR Tryz.prog 102=.ok false:=by kernel_rfl
@[simp] theorem zv102:zeroV Tryz.prog 102=.ok (.cplx .f64 0 0):=by kernel_rfl
@[simp] theorem zc102:zeroCellsR Tryz.prog 102=.ok [.cplx .f64 0 0]:=by kernel_rfl
@[simp] theorem un102:undR Tryz.prog 102=.ok (.complex .f64):=by kernel_rfl
@[simp] theorem nm102:notMake Tryz.prog (some 102)=.ok ():=by kernel_rfl
@[simp] theorem sz104:sizeR Tryz.prog 104=.ok 2:=by kernel_rfl
@[simp] theorem ag104:isAggR Tryz.prog 104=.ok true:=by kernel_rfl
@[simp] theorem zv104:zeroV Tryz.prog 104=.ok (.agg [.cplx .f64 0 0,.cplx .f64 0 0]):=by kernel_rfl
@[simp] theorem zc104:zeroCellsR Tryz.prog 104=.ok [.cplx .f64 0 0,.cplx .f64 0 0]:=by kernel_rfl
@[simp] theorem nm104:notMake Tryz.prog (some 104)=.ok ():=by kernel_rfl
@[simp] theorem sz111:sizeR Tryz.prog 111=.ok 1:=by kernel_rfl
@[simp] theorem ag111:isAggR Tryz.prog 111=.ok false:=by kernel_rfl
@[simp] theorem zv111:zeroV Tryz.prog 111=.ok (.nils):=by kernel_rfl
@[simp] theorem zc111:zeroCellsR Tryz.prog 111=.ok [.nils]:=by kernel_rfl
@[simp] theorem un111:undR Tryz.prog 111=.ok (.slice 3):=by kernel_rfl
@[simp] theorem el111:elemSl Tryz.prog 111=.ok 3:=by kernel_rfl
@[simp] theorem nm111:notMake Tryz.prog (some 111)=.ok ():=by kernel_rfl
@[simp] theorem sz112:sizeR Tryz.prog 112=.ok 1:=by kernel_rfl
@[simp] theorem ag112:isAggR Tryz.prog 112=.ok false:=by kernel_rfl
@[simp] theorem zv112:zeroV Tryz.prog 112=.ok (.int .u64 0):=by kernel_rfl
@[simp] theorem zc112:zeroCellsR Tryz.prog 112=.ok [.int .u64 0]:=by kernel_rfl
@[simp] theorem un112:undR Tryz.prog 112=.ok (.int .u64):=by kernel_rfl
@[simp] theorem nm112:notMake Tryz.prog (some 112)=.err 130:=by kernel_rfl
@[simp] theorem sz113:sizeR Tryz.prog 113=.ok 1:=by kernel_rfl
@[simp] theorem ag113:isAggR Tryz.prog 113=.ok false:=by kernel_rfl
@[simp] theorem zv113:zeroV Tryz.prog 113=.ok (.nils):=by kernel_rfl
@[simp] theorem zc113:zeroCellsR Tryz.prog 113=.ok [.nils]:=by kernel_rfl
@[simp] theorem un113:undR Tryz.prog 113=.ok (.slice 55):=by kernel_rfl
@[simp] theorem el113:elemSl Tryz.prog 113=.ok 55:=by kernel_rfl
@[simp] theorem nm113:notMake Tryz.prog (some 113)=.ok ():=by kernel_rfl
@[simp] theorem sz157:sizeR Tryz.prog 157=.ok 3:=by kernel_rfl
@[simp] theorem ag157:isAggR Tryz.prog 157=.ok true:=by kernel_rfl
@[simp] theorem zv157:zeroV Tryz.prog 157=.ok (.agg [.int .u16 0,.int .u32 0,.int .i64 0]):=by kernel_rfl
@[simp] theorem zc157:zeroCellsR Tryz.prog 157=.ok [.int .u16 0,.int .u32 0,.int .i64 0]:=by kernel_rfl
@[simp] theorem nm157:notMake Tryz.prog (some 157)=.ok ():=by kernel_rfl
@[simp] theorem sz162:sizeR Tryz.prog 162=.ok 1:=by kernel_rfl
@[simp] theorem ag162:isAggR Tryz.prog 162=.ok false:=by kernel_rfl
@[simp] theorem zv162:zeroV Tryz.prog 162=.ok (.nils):=by kernel_rfl
@[simp] theorem zc162:zeroCellsR Tryz.prog 162=.ok [.nils]:=by kernel_rfl
@[simp] theorem un162:undR Tryz.prog 162=.ok (.slice 5):=by kernel_rfl
@[simp] theorem el162:elemSl Tryz.prog 162=.ok 5:=by kernel_rfl
@[simp] theorem nm162:notMake Tryz.prog (some 162)=.ok ():=by kernel_rfl
@[simp] theorem sz166:sizeR Tryz.prog 166=.ok 1:=by kernel_rfl
@[simp] theorem ag166:isAggR Tryz.prog 166=.ok false:=by kernel_rfl
@[simp] theorem zv166:zeroV Tryz.prog 166=.ok (.float .f64 0):=by kernel_rfl
@[simp] theorem zc166:zeroCellsR Tryz.prog 166=.ok [.float .f64 0]:=by kernel_rfl
@[simp] theorem un166:undR Tryz.prog 166=.ok (.float .f64):=by kernel_rfl
@[simp] theorem nm166:notMake Tryz.prog (some 166)=.ok ():=by kernel_rfl
@[simp] theorem sz168:sizeR Tryz.prog 168=.ok 3:=by kernel_rfl
@[simp] theorem ag168:isAggR Tryz.prog 168=.ok true:=by kernel_rfl
@[simp] theorem zv168:zeroV Tryz.prog 168=.ok (.agg [.int .u16 0,.int .u32 0,.int .u32 0]):=by kernel_rfl
@[simp] theorem zc168:zeroCellsR Tryz.prog 168=.ok [.int .u16 0,.int .u32 0,.int .u32 0]:=by kernel_rfl
@[simp] theorem nm168:notMake Tryz.prog (some 168)=.ok ():=by kernel_rfl
@[simp] theorem sz169:sizeR Tryz.prog 169=.ok 1:=by kernel_rfl
@[simp] theorem ag169:isAggR Tryz.prog 169=.ok false:=by kernel_rfl
@[simp] theorem zv169:zeroV Tryz.prog 169=.ok (.nils):=by kernel_rfl
@[simp] theorem zc169:zeroCellsR Tryz.prog 169=.ok [.nils]:=by kernel_rfl
@[simp] theorem un169:undR Tryz.prog 169=.ok (.slice 157):=by kernel_rfl
@[simp] theorem el169:elemSl Tryz.prog 169=.ok 157:=by kernel_rfl
@[simp] theorem nm169:notMake Tryz.prog (some 169)=.ok ():=by kernel_rfl
@[simp] theorem sz178:sizeR Tryz.prog 178=.ok 5:=by kernel_rfl
@[simp] theorem ag178:isAggR Tryz.prog 178=.ok true:=by kernel_rfl
@[simp] theorem zv178:zeroV Tryz.prog 178=.ok (.agg [.int .u64 0,.int .u16 0,.int .u32 0,.int .u16 0,.int .u32 0]):=by kernel_rfl
@[simp] theorem zc178:zeroCellsR Tryz.prog 178=.ok [.int .u64 0,.int .u16 0,.int .u32 0,.int .u16 0,.int .u32 0]:=by kernel_rfl
@[simp] theorem nm178:notMake Tryz.prog (some 178)=.ok ():=by kernel_rfl
@[simp] theorem sz193:sizeR Tryz.prog 193=.ok 1:=by kernel_rfl
@[simp] theorem ag193:isAggR Tryz.prog 193=.ok false:=by kernel_rfl
@[simp] theorem zv193:zeroV Tryz.prog 193=.ok (.nilp):=by kernel_rfl
@[simp] theorem zc193:zeroCellsR Tryz.prog 193=.ok [.nilp]:=by kernel_rfl
@[simp] theorem un193:undR Tryz.prog 193=.ok (.pointer 38):=by kernel_rfl
@[simp] theorem nm193:notMake Tryz.prog (some 193)=.ok ():=by kernel_rfl
@[simp] theorem sz194:sizeR Tryz.prog 194=.ok 1:=by kernel_rfl
@[simp] theorem ag194:isAggR Tryz.prog 194=.ok false:=by kernel_rfl
@[simp] theorem zv194:zeroV Tryz.prog 194=.ok (.nilp):=by kernel_rfl
@[simp] theorem zc194:zeroCellsR Tryz.prog 194=.ok [.nilp]:=by kernel_rfl
@[simp] theorem un194:undR Tryz.prog 194=.ok (.pointer 196):=by kernel_rfl
@[simp] theorem nm194:notMake Tryz.prog (some 194)=.ok ():=by kernel_rfl
@[simp] theorem sz196:sizeR Tryz.prog 196=.ok 3:=by kernel_rfl
@[simp] theorem ag196:isAggR Tryz.prog 196=.ok true:=by kernel_rfl
@[simp] theorem zv196:zeroV Tryz.prog 196=.ok (.agg [.int .i64 0,.nils,.bool false]):=by kernel_rfl
@[simp] theorem zc196:zeroCellsR Tryz.prog 196=.ok [.int .i64 0,.nils,.bool false]:=by kernel_rfl
@[simp] theorem nm196:notMake Tryz.prog (some 196)=.ok ():=by kernel_rfl
@[simp] theorem sz200:sizeR Tryz.prog 200=.ok 1:=by kernel_rfl
@[simp] theorem ag200:isAggR Tryz.prog 200=.ok false:=by kernel_rfl
@[simp] theorem zv200:zeroV Tryz.prog 200=.ok (.nilp):=by kernel_rfl
@[simp] theorem zc200:zeroCellsR Tryz.prog 200=.ok [.nilp]:=by kernel_rfl
@[simp] theorem un200:undR Tryz.prog 200=.ok (.pointer 31):=by kernel_rfl
@[simp] theorem nm200:notMake Tryz.prog (some 200)=.ok ():=by kernel_rfl
@[simp] theorem sz202:sizeR Tryz.prog 202=.ok 7:=by kernel_rfl
@[simp] theorem ag202:isAggR Tryz.prog 202=.ok true:=by kernel_rfl
@[simp] theorem zv202:zeroV Tryz.prog 202=.ok (.agg [.int .u64 0,.int .u16 0,.int .u32 0,.int .u16 0,.int .u32 0,.str [],.bool false]):=by kernel_rfl
@[simp] theorem zc202:zeroCellsR Tryz.prog 202=.ok [.int .u64 0,.int .u16 0,.int .u32 0,.int .u16 0,.int .u32 0,.str [],.bool false]:=by kernel_rfl
@[simp] theorem nm202:notMake Tryz.prog (some 202)=.ok ():=by kernel_rfl
@[simp] theorem sz206:sizeR Tryz.prog 206=.ok 1:=by kernel_rfl
@[simp] theorem ag206:isAggR Tryz.prog 206=.ok false:=by kernel_rfl
@[simp] theorem zv206:zeroV Tryz.prog 206=.ok (.nilp):=by kernel_rfl
@[simp] theorem zc206:zeroCellsR Tryz.prog 206=.ok [.nilp]:=by kernel_rfl
@[simp] theorem un206:undR Tryz.prog 206=.ok (.pointer 209):=by kernel_rfl
@[simp] theorem nm206:notMake Tryz.prog (some 206)=.ok ():=by kernel_rfl
@[simp] theorem sz207:sizeR Tryz.prog 207=.ok 1:=by kernel_rfl
@[simp] theorem ag207:isAggR Tryz.prog 207=.ok false:=by kernel_rfl
@[simp] theorem zv207:zeroV Tryz.prog 207=.ok (.nils):=by kernel_rfl
@[simp] theorem zc207:zeroCellsR Tryz.prog 207=.ok [.nils]:=by kernel_rfl
@[simp] theorem un207:undR Tryz.prog 207=.ok (.slice 70):=by kernel_rfl
@[simp] theorem el207:elemSl Tryz.prog 207=.ok 70:=by kernel_rfl
@[simp] theorem nm207:notMake Tryz.prog (some 207)=.ok ():=by kernel_rfl
@[simp] theorem sz209:sizeR Tryz.prog 209=.ok 3:=by kernel_rfl
@[simp] theorem ag209:isAggR Tryz.prog 209=.ok true:=by kernel_rfl
@[simp] theorem zv209:zeroV Tryz.prog 209=.ok (.agg [.int .u16 0,.int .u32 0,.nils]):=by kernel_rfl
@[simp] theorem zc209:zeroCellsR Tryz.prog 209=.ok [.int .u16 0,.int .u32 0,.nils]:=by kernel_rfl
@[simp] theorem nm209:notMake Tryz.prog (some 209)=.ok ():=by kernel_rfl
@[simp] theorem sz210:sizeR Tryz.prog 210=.ok 1:=by kernel_rfl
@[simp] theorem ag210:isAggR Tryz.prog 210=.ok false:=by kernel_rfl
@[simp] theorem zv210:zeroV Tryz.prog 210=.ok (.nils):=by kernel_rfl
@[simp] theorem zc210:zeroCellsR Tryz.prog 210=.ok [.nils]:=by kernel_rfl
@[simp] theorem un210:undR Tryz.prog 210=.ok (.slice 178):=by kernel_rfl
@[simp] theorem el210:elemSl Tryz.prog 210=.ok 178:=by kernel_rfl
@[simp] theorem nm210:notMake Tryz.prog (some 210)=.ok ():=by kernel_rfl
@[simp] theorem sz215:sizeR Tryz.prog 215=.ok 1:=by kernel_rfl
@[simp] theorem ag215:isAggR Tryz.prog 215=.ok false:=by kernel_rfl
@[simp] theorem zv215:zeroV Tryz.prog 215=.ok (.nilp):=by kernel_rfl
@[simp] theorem zc215:zeroCellsR Tryz.prog 215=.ok [.nilp]:=by kernel_rfl
@[simp] theorem un215:undR Tryz.prog 215=.ok (.pointer 217):=by kernel_rfl
@[simp] theorem nm215:notMake Tryz.prog (some 215)=.ok ():=by kernel_rfl
@[simp] theorem sz217:sizeR Tryz.prog 217=.ok 2:=by kernel_rfl
@[simp] theorem ag217:isAggR Tryz.prog 217=.ok true:=by kernel_rfl
@[simp] theorem zv217:zeroV Tryz.prog 217=.ok (.agg [.nilp,.nils]):=by kernel_rfl
@[simp] theorem zc217:zeroCellsR Tryz.prog 217=.ok [.nilp,.nils]:=by kernel_rfl
@[simp] theorem nm217:notMake Tryz.prog (some 217)=.ok ():=by kernel_rfl
@[simp] theorem sz220:sizeR Tryz.prog 220=.ok 4:=by kernel_rfl
@[simp] theorem ag220:isAggR Tryz.prog 220=.ok true:=by kernel_rfl
@[simp] theorem zv220:zeroV Tryz.prog 220=.ok (.agg [.int .i64 0,.int .i64 0,.cplx .f64 0 0,.cplx .f64 0 0]):=by kernel_rfl
@[simp] theorem zc220:zeroCellsR Tryz.prog 220=.ok [.int .i64 0,.int .i64 0,.cplx .f64 0 0,.cplx .f64 0 0]:=by kernel_rfl
@[simp] theorem nm220:notMake Tryz.prog (some 220)=.ok ():=by kernel_rfl
@[simp] theorem sz236:sizeR Tryz.prog 236=.ok 1:=by kernel_rfl
@[simp] theorem ag236:isAggR Tryz.prog 236=.ok false:=by kernel_rfl
@[simp] theorem zv236:zeroV Tryz.prog 236=.ok (.nilp):=by kernel_rfl
@[simp] theorem zc236:zeroCellsR Tryz.prog 236=.ok [.nilp]:=by kernel_rfl
@[simp] theorem un236:undR Tryz.prog 236=.ok (.pointer 34):=by kernel_rfl
@[simp] theorem nm236:notMake Tryz.prog (some 236)=.ok ():=by kernel_rfl
@[simp] theorem sz246:sizeR Tryz.prog 246=.ok 1:=by kernel_rfl
@[simp] theorem ag246:isAggR Tryz.prog 246=.ok false:=by kernel_rfl
@[simp] theorem zv246:zeroV Tryz.prog 246=.ok (.nilf):=by kernel_rfl
@[simp] theorem zc246:zeroCellsR Tryz.prog 246=.ok [.nilf]:=by kernel_rfl
@[simp] theorem nm246:notMake Tryz.prog (some 246)=.ok ():=by kernel_rfl
@[simp] theorem sz251:sizeR Tryz.prog 251=.ok 1:=by kernel_rfl
@[simp] theorem ag251:isAggR Tryz.prog 251=.ok false:=by kernel_rfl
@[simp] theorem zv251:zeroV Tryz.prog 251=.ok (.nilf):=by kernel_rfl
@[simp] theorem zc251:zeroCellsR Tryz.prog 251=.ok [.nilf]:=by kernel_rfl
@[simp] theorem nm251:notMake Tryz.prog (some 251)=.ok ():=by kernel_rfl
@[simp] theorem sz257:sizeR Tryz.prog 257=.ok 1:=by kernel_rfl
@[simp] theorem ag257:isAggR Tryz.prog 257=.ok false:=by kernel_rfl
@[simp] theorem zv257:zeroV Tryz.prog 257=.ok (.nilp):=by kernel_rfl
@[simp] theorem zc257:zeroCellsR Tryz.prog 257=.ok [.nilp]:=by kernel_rfl
@[simp] theorem un257:undR Tryz.prog 257=.ok (.pointer 28):=by kernel_rfl
@[simp] theorem nm257:notMake Tryz.prog (some 257)=.ok ():=by kernel_rfl
@[simp] theorem sz259:sizeR Tryz.prog 259=.ok 16:=by kernel_rfl
@[simp] theorem ag259:isAggR Tryz.prog 259=.ok true:=by kernel_rfl
@[simp] theorem zv259:zeroV Tryz.prog 259=.ok (.agg [.nilp,.nilp,.nilp,.int .u64 0,.int .i64 0,.int .u64 0,.int .u16 0,.int .u32 0,.int .u16 0,.int .u32 0,.str [],.bool false,.int .i64 0,.int .i64 0,.cplx .f64 0 0,.cplx .f64 0 0]):=by kernel_rfl
@[simp] theorem zc259:zeroCellsR Tryz.prog 259=.ok [.nilp,.nilp,.nilp,.int .u64 0,.int .i64 0,.int .u64 0,.int .u16 0,.int .u32 0,.int .u16 0,.int .u32 0,.str [],.bool false,.int .i64 0,.int .i64 0,.cplx .f64 0 0,.cplx .f64 0 0]:=by kernel_rfl
@[simp] theorem nm259:notMake Tryz.prog (some 259)=.ok ():=by kernel_rfl
@[simp] theorem sz270:sizeR Tryz.prog 270=.ok 1:=by kernel_rfl
@[simp] theorem ag270:isAggR Tryz.prog 270=.ok false:=by kernel_rfl
@[simp] theorem zv270:zeroV Tryz.prog 270=.ok (.nils):=by kernel_rfl
@[simp] theorem zc270:zeroCellsR Tryz.prog 270=.ok [.nils]:=by kernel_rfl
@[simp] theorem un270:undR Tryz.prog 270=.ok (.slice 25):=by kernel_rfl
@[simp] theorem el270:elemSl Tryz.prog 270=.ok 25:=by kernel_rfl
@[simp] theorem nm270:notMake Tryz.prog (some 270)=.ok ():=by kernel_rfl
@[simp] theorem sz286:sizeR Tryz.prog 286=.ok 1:=by kernel_rfl
@[simp] theorem ag286:isAggR Tryz.prog 286=.ok false:=by kernel_rfl
@[simp] theorem zv286:zeroV Tryz.prog 286=.ok (.nilf):=by kernel_rfl
@[simp] theorem zc286:zeroCellsR Tryz.prog 286=.ok [.nilf]:=by kernel_rfl
@[simp] theorem nm286:notMake Tryz.prog (some 286)=.ok ():=by kernel_rfl
@[simp] theorem sz343:sizeR Tryz.prog 343=.ok 1:=by kernel_rfl
@[simp] theorem ag343:isAggR Tryz.prog 343=.ok false:=by kernel_rfl
@[simp] theorem zv343:zeroV Tryz.prog 343=.ok (.nils):=by kernel_rfl
@[simp] theorem zc343:zeroCellsR Tryz.prog 343=.ok [.nils]:=by kernel_rfl
@[simp] theorem un343:undR Tryz.prog 343=.ok (.slice 104):=by kernel_rfl
@[simp] theorem el343:elemSl Tryz.prog 343=.ok 104:=by kernel_rfl
@[simp] theorem nm343:notMake Tryz.prog (some 343)=.ok ():=by kernel_rfl
@[simp] theorem co0:Tryz.prog.cellsOf 0=1:=by kernel_rfl
@[simp] theorem co3:Tryz.prog.cellsOf 3=1:=by kernel_rfl
@[simp] theorem co4:Tryz.prog.cellsOf 4=1:=by kernel_rfl
@[simp] theorem co5:Tryz.prog.cellsOf 5=1:=by kernel_rfl
@[simp] theorem co9:Tryz.prog.cellsOf 9=1:=by kernel_rfl
@[simp] theorem co20:Tryz.prog.cellsOf 20=1:=by kernel_rfl
@[simp] theorem co22:Tryz.prog.cellsOf 22=1:=by kernel_rfl
@[simp] theorem co25:Tryz.prog.cellsOf 25=1:=by kernel_rfl
@[simp] theorem co26:Tryz.prog.cellsOf 26=1:=by kernel_rfl
@[simp] theorem co28:Tryz.prog.cellsOf 28=2:=by kernel_rfl
@[simp] theorem co29:Tryz.prog.cellsOf 29=1:=by kernel_rfl
@[simp] theorem co31:Tryz.prog.cellsOf 31=3:=by kernel_rfl
@[simp] theorem co32:Tryz.prog.cellsOf 32=1:=by kernel_rfl
@[simp] theorem co34:Tryz.prog.cellsOf 34=2:=by kernel_rfl
@[simp] theorem co35:Tryz.prog.cellsOf 35=1:=by kernel_rfl
@[simp] theorem co36:Tryz.prog.cellsOf 36=1:=by kernel_rfl
@[simp] theorem co38:Tryz.prog.cellsOf 38=2:=by kernel_rfl
@[simp] theorem co40:Tryz.prog.cellsOf 40=9:=by kernel_rfl
@[simp] theorem co41:Tryz.prog.cellsOf 41=1:=by kernel_rfl
@[simp] theorem co43:Tryz.prog.cellsOf 43=1:=by kernel_rfl
@[simp] theorem co45:Tryz.prog.cellsOf 45=1:=by kernel_rfl
@[simp] theorem co47:Tryz.prog.cellsOf 47=1:=by kernel_rfl
@[simp] theorem co48:Tryz.prog.cellsOf 48=1:=by kernel_rfl
@[simp] theorem co50:Tryz.prog.cellsOf 50=5:=by kernel_rfl
@[simp] theorem co53:Tryz.prog.cellsOf 53=5:=by kernel_rfl
@[simp] theorem co55:Tryz.prog.cellsOf 55=2:=by kernel_rfl
@[simp] theorem co56:Tryz.prog.cellsOf 56=1:=by kernel_rfl
@[simp] theorem co58:Tryz.prog.cellsOf 58=7:=by kernel_rfl
@[simp] theorem co60:Tryz.prog.cellsOf 60=1:=by kernel_rfl
@[simp] theorem co64:Tryz.prog.cellsOf 64=5:=by kernel_rfl
@[simp] theorem co70:Tryz.prog.cellsOf 70=2:=by kernel_rfl
@[simp] theorem co77:Tryz.prog.cellsOf 77=1:=by kernel_rfl
@[simp] theorem co85:Tryz.prog.cellsOf 85=1:=by kernel_rfl
@[simp] theorem co88:Tryz.prog.cellsOf 88=3:=by kernel_rfl
@[simp] theorem co90:Tryz.prog.cellsOf 90=7:=by kernel_rfl
@[simp] theorem co102:Tryz.prog.cellsOf 102=1:=by kernel_rfl
@[simp] theorem co104:Tryz.prog.cellsOf 104=2:=by kernel_rfl
@[simp] theorem co111:Tryz.prog.cellsOf 111=1:=by kernel_rfl
@[simp] theorem co112:Tryz.prog.cellsOf 112=1:=by kernel_rfl
@[simp] theorem co113:Tryz.prog.cellsOf 113=1:=by kernel_rfl
@[simp] theorem co137:Tryz.prog.cellsOf 137=1:=by kernel_rfl
@[simp] theorem co142:Tryz.prog.cellsOf 142=1:=by kernel_rfl
@[simp] theorem co151:Tryz.prog.cellsOf 151=1:=by kernel_rfl
@[simp] theorem co157:Tryz.prog.cellsOf 157=3:=by kernel_rfl
@[simp] theorem co162:Tryz.prog.cellsOf 162=1:=by kernel_rfl
@[simp] theorem co166:Tryz.prog.cellsOf 166=1:=by kernel_rfl
@[simp] theorem co168:Tryz.prog.cellsOf 168=3:=by kernel_rfl
@[simp] theorem co169:Tryz.prog.cellsOf 169=1:=by kernel_rfl
@[simp] theorem co178:Tryz.prog.cellsOf 178=5:=by kernel_rfl
@[simp] theorem co179:Tryz.prog.cellsOf 179=1:=by kernel_rfl
@[simp] theorem co193:Tryz.prog.cellsOf 193=1:=by kernel_rfl
@[simp] theorem co194:Tryz.prog.cellsOf 194=1:=by kernel_rfl
@[simp] theorem co196:Tryz.prog.cellsOf 196=3:=by kernel_rfl
@[simp] theorem co200:Tryz.prog.cellsOf 200=1:=by kernel_rfl
@[simp] theorem co202:Tryz.prog.cellsOf 202=7:=by kernel_rfl
@[simp] theorem co206:Tryz.prog.cellsOf 206=1:=by kernel_rfl
@[simp] theorem co207:Tryz.prog.cellsOf 207=1:=by kernel_rfl
@[simp] theorem co209:Tryz.prog.cellsOf 209=3:=by kernel_rfl
@[simp] theorem co210:Tryz.prog.cellsOf 210=1:=by kernel_rfl
@[simp] theorem co215:Tryz.prog.cellsOf 215=1:=by kernel_rfl
@[simp] theorem co217:Tryz.prog.cellsOf 217=2:=by kernel_rfl
@[simp] theorem co220:Tryz.prog.cellsOf 220=4:=by kernel_rfl
@[simp] theorem co224:Tryz.prog.cellsOf 224=1:=by kernel_rfl
@[simp] theorem co236:Tryz.prog.cellsOf 236=1:=by kernel_rfl
@[simp] theorem co239:Tryz.prog.cellsOf 239=1:=by kernel_rfl
@[simp] theorem co244:Tryz.prog.cellsOf 244=1:=by kernel_rfl
@[simp] theorem co246:Tryz.prog.cellsOf 246=1:=by kernel_rfl
@[simp] theorem co247:Tryz.prog.cellsOf 247=1:=by kernel_rfl
@[simp] theorem co251:Tryz.prog.cellsOf 251=1:=by kernel_rfl
@[simp] theorem co257:Tryz.prog.cellsOf 257=1:=by kernel_rfl
@[simp] theorem co259:Tryz.prog.cellsOf 259=16:=by kernel_rfl
@[simp] theorem co263:Tryz.prog.cellsOf 263=1:=by kernel_rfl
@[simp] theorem co270:Tryz.prog.cellsOf 270=1:=by kernel_rfl
@[simp] theorem co272:Tryz.prog.cellsOf 272=1:=by kernel_rfl
@[simp] theorem co278:Tryz.prog.cellsOf 278=1:=by kernel_rfl
@[simp] theorem co286:Tryz.prog.cellsOf 286=1:=by kernel_rfl
@[simp] theorem co343:Tryz.prog.cellsOf 343=1:=by kernel_rfl
@[simp] theorem nmN:notMake Tryz.prog none=.ok ():=rfl
@[simp] theorem fa28_0 (x:AVal):fieldAddrR Tryz.prog 28 x 0=addOff x 0:=by kernel_rfl
@[simp] theorem so28_0:((fieldOf Tryz.prog 28 0).bind fun fd=>(sizeR Tryz.prog fd.type).bind fun n=>if n=0 then .err 191 else .ok fd.offset)=.ok 0:=by kernel_rfl
@[simp] theorem fi28_0 (vs:List AVal):fieldR Tryz.prog 28 (.agg vs) 0=partR Tryz.prog 25 vs 0:=by kernel_rfl
@[simp] theorem fa28_1 (x:AVal):fieldAddrR Tryz.prog 28 x 1=addOff x 1:=by kernel_rfl
@[simp] theorem so28_1:((fieldOf Tryz.prog 28 1).bind fun fd=>(sizeR Tryz.prog fd.type).bind fun n=>if n=0 then .err 191 else .ok fd.offset)=.ok 1:=by kernel_rfl
@[simp] theorem fi28_1 (vs:List AVal):fieldR Tryz.prog 28 (.agg vs) 1=partR Tryz.prog 26 vs 1:=by kernel_rfl
@[simp] theorem fa31_0 (x:AVal):fieldAddrR Tryz.prog 31 x 0=addOff x 0:=by kernel_rfl
@[simp] theorem so31_0:((fieldOf Tryz.prog 31 0).bind fun fd=>(sizeR Tryz.prog fd.type).bind fun n=>if n=0 then .err 191 else .ok fd.offset)=.ok 0:=by kernel_rfl
@[simp] theorem fi31_0 (vs:List AVal):fieldR Tryz.prog 31 (.agg vs) 0=partR Tryz.prog 28 vs 0:=by kernel_rfl
@[simp] theorem fa31_1 (x:AVal):fieldAddrR Tryz.prog 31 x 1=addOff x 2:=by kernel_rfl
@[simp] theorem so31_1:((fieldOf Tryz.prog 31 1).bind fun fd=>(sizeR Tryz.prog fd.type).bind fun n=>if n=0 then .err 191 else .ok fd.offset)=.ok 2:=by kernel_rfl
@[simp] theorem fi31_1 (vs:List AVal):fieldR Tryz.prog 31 (.agg vs) 1=partR Tryz.prog 29 vs 2:=by kernel_rfl
@[simp] theorem fa34_0 (x:AVal):fieldAddrR Tryz.prog 34 x 0=addOff x 0:=by kernel_rfl
@[simp] theorem so34_0:((fieldOf Tryz.prog 34 0).bind fun fd=>(sizeR Tryz.prog fd.type).bind fun n=>if n=0 then .err 191 else .ok fd.offset)=.ok 0:=by kernel_rfl
@[simp] theorem fi34_0 (vs:List AVal):fieldR Tryz.prog 34 (.agg vs) 0=partR Tryz.prog 32 vs 0:=by kernel_rfl
@[simp] theorem fa34_1 (x:AVal):fieldAddrR Tryz.prog 34 x 1=addOff x 1:=by kernel_rfl
@[simp] theorem so34_1:((fieldOf Tryz.prog 34 1).bind fun fd=>(sizeR Tryz.prog fd.type).bind fun n=>if n=0 then .err 191 else .ok fd.offset)=.ok 1:=by kernel_rfl
@[simp] theorem fi34_1 (vs:List AVal):fieldR Tryz.prog 34 (.agg vs) 1=partR Tryz.prog 3 vs 1:=by kernel_rfl
@[simp] theorem fa38_0 (x:AVal):fieldAddrR Tryz.prog 38 x 0=addOff x 0:=by kernel_rfl
@[simp] theorem so38_0:((fieldOf Tryz.prog 38 0).bind fun fd=>(sizeR Tryz.prog fd.type).bind fun n=>if n=0 then .err 191 else .ok fd.offset)=.ok 0:=by kernel_rfl
@[simp] theorem fi38_0 (vs:List AVal):fieldR Tryz.prog 38 (.agg vs) 0=partR Tryz.prog 35 vs 0:=by kernel_rfl
@[simp] theorem fa38_1 (x:AVal):fieldAddrR Tryz.prog 38 x 1=addOff x 1:=by kernel_rfl
@[simp] theorem so38_1:((fieldOf Tryz.prog 38 1).bind fun fd=>(sizeR Tryz.prog fd.type).bind fun n=>if n=0 then .err 191 else .ok fd.offset)=.ok 1:=by kernel_rfl
@[simp] theorem fi38_1 (vs:List AVal):fieldR Tryz.prog 38 (.agg vs) 1=partR Tryz.prog 36 vs 1:=by kernel_rfl
@[simp] theorem fa40_0 (x:AVal):fieldAddrR Tryz.prog 40 x 0=addOff x 0:=by kernel_rfl
@[simp] theorem so40_0:((fieldOf Tryz.prog 40 0).bind fun fd=>(sizeR Tryz.prog fd.type).bind fun n=>if n=0 then .err 191 else .ok fd.offset)=.ok 0:=by kernel_rfl
@[simp] theorem fi40_0 (vs:List AVal):fieldR Tryz.prog 40 (.agg vs) 0=partR Tryz.prog 31 vs 0:=by kernel_rfl
@[simp] theorem fa40_1 (x:AVal):fieldAddrR Tryz.prog 40 x 1=addOff x 3:=by kernel_rfl
@[simp] theorem so40_1:((fieldOf Tryz.prog 40 1).bind fun fd=>(sizeR Tryz.prog fd.type).bind fun n=>if n=0 then .err 191 else .ok fd.offset)=.ok 3:=by kernel_rfl
@[simp] theorem fi40_1 (vs:List AVal):fieldR Tryz.prog 40 (.agg vs) 1=partR Tryz.prog 34 vs 3:=by kernel_rfl
@[simp] theorem fa40_2 (x:AVal):fieldAddrR Tryz.prog 40 x 2=addOff x 5:=by kernel_rfl
@[simp] theorem so40_2:((fieldOf Tryz.prog 40 2).bind fun fd=>(sizeR Tryz.prog fd.type).bind fun n=>if n=0 then .err 191 else .ok fd.offset)=.ok 5:=by kernel_rfl
@[simp] theorem fi40_2 (vs:List AVal):fieldR Tryz.prog 40 (.agg vs) 2=partR Tryz.prog 38 vs 5:=by kernel_rfl
@[simp] theorem fa40_3 (x:AVal):fieldAddrR Tryz.prog 40 x 3=addOff x 7:=by kernel_rfl
@[simp] theorem so40_3:((fieldOf Tryz.prog 40 3).bind fun fd=>(sizeR Tryz.prog fd.type).bind fun n=>if n=0 then .err 191 else .ok fd.offset)=.ok 7:=by kernel_rfl
@[simp] theorem fi40_3 (vs:List AVal):fieldR Tryz.prog 40 (.agg vs) 3=partR Tryz.prog 26 vs 7:=by kernel_rfl
@[simp] theorem fa40_4 (x:AVal):fieldAddrR Tryz.prog 40 x 4=addOff x 8:=by kernel_rfl
@[simp] theorem so40_4:((fieldOf Tryz.prog 40 4).bind fun fd=>(sizeR Tryz.prog fd.type).bind fun n=>if n=0 then .err 191 else .ok fd.offset)=.ok 8:=by kernel_rfl
@[simp] theorem fi40_4 (vs:List AVal):fieldR Tryz.prog 40 (.agg vs) 4=partR Tryz.prog 3 vs 8:=by kernel_rfl
@[simp] theorem fa50_0 (x:AVal):fieldAddrR Tryz.prog 50 x 0=addOff x 0:=by kernel_rfl
@[simp] theorem so50_0:((fieldOf Tryz.prog 50 0).bind fun fd=>(sizeR Tryz.prog fd.type).bind fun n=>if n=0 then .err 191 else .ok fd.offset)=.ok 0:=by kernel_rfl
@[simp] theorem fi50_0 (vs:List AVal):fieldR Tryz.prog 50 (.agg vs) 0=partR Tryz.prog 47 vs 0:=by kernel_rfl
@[simp] theorem fa50_1 (x:AVal):fieldAddrR Tryz.prog 50 x 1=addOff x 1:=by kernel_rfl
@[simp] theorem so50_1:((fieldOf Tryz.prog 50 1).bind fun fd=>(sizeR Tryz.prog fd.type).bind fun n=>if n=0 then .err 191 else .ok fd.offset)=.ok 1:=by kernel_rfl
@[simp] theorem fi50_1 (vs:List AVal):fieldR Tryz.prog 50 (.agg vs) 1=partR Tryz.prog 41 vs 1:=by kernel_rfl
@[simp] theorem fa50_2 (x:AVal):fieldAddrR Tryz.prog 50 x 2=addOff x 2:=by kernel_rfl
@[simp] theorem so50_2:((fieldOf Tryz.prog 50 2).bind fun fd=>(sizeR Tryz.prog fd.type).bind fun n=>if n=0 then .err 191 else .ok fd.offset)=.ok 2:=by kernel_rfl
@[simp] theorem fi50_2 (vs:List AVal):fieldR Tryz.prog 50 (.agg vs) 2=partR Tryz.prog 26 vs 2:=by kernel_rfl
@[simp] theorem fa50_3 (x:AVal):fieldAddrR Tryz.prog 50 x 3=addOff x 3:=by kernel_rfl
@[simp] theorem so50_3:((fieldOf Tryz.prog 50 3).bind fun fd=>(sizeR Tryz.prog fd.type).bind fun n=>if n=0 then .err 191 else .ok fd.offset)=.ok 3:=by kernel_rfl
@[simp] theorem fi50_3 (vs:List AVal):fieldR Tryz.prog 50 (.agg vs) 3=partR Tryz.prog 3 vs 3:=by kernel_rfl
@[simp] theorem fa50_4 (x:AVal):fieldAddrR Tryz.prog 50 x 4=addOff x 4:=by kernel_rfl
@[simp] theorem so50_4:((fieldOf Tryz.prog 50 4).bind fun fd=>(sizeR Tryz.prog fd.type).bind fun n=>if n=0 then .err 191 else .ok fd.offset)=.ok 4:=by kernel_rfl
@[simp] theorem fi50_4 (vs:List AVal):fieldR Tryz.prog 50 (.agg vs) 4=partR Tryz.prog 48 vs 4:=by kernel_rfl
@[simp] theorem fa53_0 (x:AVal):fieldAddrR Tryz.prog 53 x 0=addOff x 0:=by kernel_rfl
@[simp] theorem so53_0:((fieldOf Tryz.prog 53 0).bind fun fd=>(sizeR Tryz.prog fd.type).bind fun n=>if n=0 then .err 191 else .ok fd.offset)=.ok 0:=by kernel_rfl
@[simp] theorem fi53_0 (vs:List AVal):fieldR Tryz.prog 53 (.agg vs) 0=partR Tryz.prog 3 vs 0:=by kernel_rfl
@[simp] theorem fa53_1 (x:AVal):fieldAddrR Tryz.prog 53 x 1=addOff x 1:=by kernel_rfl
@[simp] theorem so53_1:((fieldOf Tryz.prog 53 1).bind fun fd=>(sizeR Tryz.prog fd.type).bind fun n=>if n=0 then .err 191 else .ok fd.offset)=.ok 1:=by kernel_rfl
@[simp] theorem fi53_1 (vs:List AVal):fieldR Tryz.prog 53 (.agg vs) 1=partR Tryz.prog 3 vs 1:=by kernel_rfl
@[simp] theorem fa53_2 (x:AVal):fieldAddrR Tryz.prog 53 x 2=addOff x 2:=by kernel_rfl
@[simp] theorem so53_2:((fieldOf Tryz.prog 53 2).bind fun fd=>(sizeR Tryz.prog fd.type).bind fun n=>if n=0 then .err 191 else .ok fd.offset)=.ok 2:=by kernel_rfl
@[simp] theorem fi53_2 (vs:List AVal):fieldR Tryz.prog 53 (.agg vs) 2=partR Tryz.prog 3 vs 2:=by kernel_rfl
@[simp] theorem fa53_3 (x:AVal):fieldAddrR Tryz.prog 53 x 3=addOff x 3:=by kernel_rfl
@[simp] theorem so53_3:((fieldOf Tryz.prog 53 3).bind fun fd=>(sizeR Tryz.prog fd.type).bind fun n=>if n=0 then .err 191 else .ok fd.offset)=.ok 3:=by kernel_rfl
@[simp] theorem fi53_3 (vs:List AVal):fieldR Tryz.prog 53 (.agg vs) 3=partR Tryz.prog 3 vs 3:=by kernel_rfl
@[simp] theorem fa53_4 (x:AVal):fieldAddrR Tryz.prog 53 x 4=addOff x 4:=by kernel_rfl
@[simp] theorem so53_4:((fieldOf Tryz.prog 53 4).bind fun fd=>(sizeR Tryz.prog fd.type).bind fun n=>if n=0 then .err 191 else .ok fd.offset)=.ok 4:=by kernel_rfl
@[simp] theorem fi53_4 (vs:List AVal):fieldR Tryz.prog 53 (.agg vs) 4=partR Tryz.prog 9 vs 4:=by kernel_rfl
@[simp] theorem fa55_0 (x:AVal):fieldAddrR Tryz.prog 55 x 0=addOff x 0:=by kernel_rfl
@[simp] theorem so55_0:((fieldOf Tryz.prog 55 0).bind fun fd=>(sizeR Tryz.prog fd.type).bind fun n=>if n=0 then .err 191 else .ok fd.offset)=.ok 0:=by kernel_rfl
@[simp] theorem fi55_0 (vs:List AVal):fieldR Tryz.prog 55 (.agg vs) 0=partR Tryz.prog 47 vs 0:=by kernel_rfl
@[simp] theorem fa55_1 (x:AVal):fieldAddrR Tryz.prog 55 x 1=addOff x 1:=by kernel_rfl
@[simp] theorem so55_1:((fieldOf Tryz.prog 55 1).bind fun fd=>(sizeR Tryz.prog fd.type).bind fun n=>if n=0 then .err 191 else .ok fd.offset)=.ok 1:=by kernel_rfl
@[simp] theorem fi55_1 (vs:List AVal):fieldR Tryz.prog 55 (.agg vs) 1=partR Tryz.prog 41 vs 1:=by kernel_rfl
@[simp] theorem fa58_0 (x:AVal):fieldAddrR Tryz.prog 58 x 0=addOff x 0:=by kernel_rfl
@[simp] theorem so58_0:((fieldOf Tryz.prog 58 0).bind fun fd=>(sizeR Tryz.prog fd.type).bind fun n=>if n=0 then .err 191 else .ok fd.offset)=.ok 0:=by kernel_rfl
@[simp] theorem fi58_0 (vs:List AVal):fieldR Tryz.prog 58 (.agg vs) 0=partR Tryz.prog 3 vs 0:=by kernel_rfl
@[simp] theorem fa58_1 (x:AVal):fieldAddrR Tryz.prog 58 x 1=addOff x 1:=by kernel_rfl
@[simp] theorem so58_1:((fieldOf Tryz.prog 58 1).bind fun fd=>(sizeR Tryz.prog fd.type).bind fun n=>if n=0 then .err 191 else .ok fd.offset)=.ok 1:=by kernel_rfl
@[simp] theorem fi58_1 (vs:List AVal):fieldR Tryz.prog 58 (.agg vs) 1=partR Tryz.prog 55 vs 1:=by kernel_rfl
@[simp] theorem fa58_2 (x:AVal):fieldAddrR Tryz.prog 58 x 2=addOff x 3:=by kernel_rfl
@[simp] theorem so58_2:((fieldOf Tryz.prog 58 2).bind fun fd=>(sizeR Tryz.prog fd.type).bind fun n=>if n=0 then .err 191 else .ok fd.offset)=.ok 3:=by kernel_rfl
@[simp] theorem fi58_2 (vs:List AVal):fieldR Tryz.prog 58 (.agg vs) 2=partR Tryz.prog 41 vs 3:=by kernel_rfl
@[simp] theorem fa58_3 (x:AVal):fieldAddrR Tryz.prog 58 x 3=addOff x 4:=by kernel_rfl
@[simp] theorem so58_3:((fieldOf Tryz.prog 58 3).bind fun fd=>(sizeR Tryz.prog fd.type).bind fun n=>if n=0 then .err 191 else .ok fd.offset)=.ok 4:=by kernel_rfl
@[simp] theorem fi58_3 (vs:List AVal):fieldR Tryz.prog 58 (.agg vs) 3=partR Tryz.prog 9 vs 4:=by kernel_rfl
@[simp] theorem fa58_4 (x:AVal):fieldAddrR Tryz.prog 58 x 4=addOff x 5:=by kernel_rfl
@[simp] theorem so58_4:((fieldOf Tryz.prog 58 4).bind fun fd=>(sizeR Tryz.prog fd.type).bind fun n=>if n=0 then .err 191 else .ok fd.offset)=.ok 5:=by kernel_rfl
@[simp] theorem fi58_4 (vs:List AVal):fieldR Tryz.prog 58 (.agg vs) 4=partR Tryz.prog 56 vs 5:=by kernel_rfl
@[simp] theorem fa58_5 (x:AVal):fieldAddrR Tryz.prog 58 x 5=addOff x 6:=by kernel_rfl
@[simp] theorem so58_5:((fieldOf Tryz.prog 58 5).bind fun fd=>(sizeR Tryz.prog fd.type).bind fun n=>if n=0 then .err 191 else .ok fd.offset)=.ok 6:=by kernel_rfl
@[simp] theorem fi58_5 (vs:List AVal):fieldR Tryz.prog 58 (.agg vs) 5=partR Tryz.prog 41 vs 6:=by kernel_rfl
@[simp] theorem fa64_0 (x:AVal):fieldAddrR Tryz.prog 64 x 0=addOff x 0:=by kernel_rfl
@[simp] theorem so64_0:((fieldOf Tryz.prog 64 0).bind fun fd=>(sizeR Tryz.prog fd.type).bind fun n=>if n=0 then .err 191 else .ok fd.offset)=.ok 0:=by kernel_rfl
@[simp] theorem fi64_0 (vs:List AVal):fieldR Tryz.prog 64 (.agg vs) 0=partR Tryz.prog 3 vs 0:=by kernel_rfl
@[simp] theorem fa64_1 (x:AVal):fieldAddrR Tryz.prog 64 x 1=addOff x 1:=by kernel_rfl
@[simp] theorem so64_1:((fieldOf Tryz.prog 64 1).bind fun fd=>(sizeR Tryz.prog fd.type).bind fun n=>if n=0 then .err 191 else .ok fd.offset)=.ok 1:=by kernel_rfl
@[simp] theorem fi64_1 (vs:List AVal):fieldR Tryz.prog 64 (.agg vs) 1=partR Tryz.prog 3 vs 1:=by kernel_rfl
@[simp] theorem fa64_2 (x:AVal):fieldAddrR Tryz.prog 64 x 2=addOff x 2:=by kernel_rfl
@[simp] theorem so64_2:((fieldOf Tryz.prog 64 2).bind fun fd=>(sizeR Tryz.prog fd.type).bind fun n=>if n=0 then .err 191 else .ok fd.offset)=.ok 2:=by kernel_rfl
@[simp] theorem fi64_2 (vs:List AVal):fieldR Tryz.prog 64 (.agg vs) 2=partR Tryz.prog 3 vs 2:=by kernel_rfl
@[simp] theorem fa64_3 (x:AVal):fieldAddrR Tryz.prog 64 x 3=addOff x 3:=by kernel_rfl
@[simp] theorem so64_3:((fieldOf Tryz.prog 64 3).bind fun fd=>(sizeR Tryz.prog fd.type).bind fun n=>if n=0 then .err 191 else .ok fd.offset)=.ok 3:=by kernel_rfl
@[simp] theorem fi64_3 (vs:List AVal):fieldR Tryz.prog 64 (.agg vs) 3=partR Tryz.prog 3 vs 3:=by kernel_rfl
@[simp] theorem fa64_4 (x:AVal):fieldAddrR Tryz.prog 64 x 4=addOff x 4:=by kernel_rfl
@[simp] theorem so64_4:((fieldOf Tryz.prog 64 4).bind fun fd=>(sizeR Tryz.prog fd.type).bind fun n=>if n=0 then .err 191 else .ok fd.offset)=.ok 4:=by kernel_rfl
@[simp] theorem fi64_4 (vs:List AVal):fieldR Tryz.prog 64 (.agg vs) 4=partR Tryz.prog 9 vs 4:=by kernel_rfl
@[simp] theorem fa88_0 (x:AVal):fieldAddrR Tryz.prog 88 x 0=addOff x 0:=by kernel_rfl
@[simp] theorem so88_0:((fieldOf Tryz.prog 88 0).bind fun fd=>(sizeR Tryz.prog fd.type).bind fun n=>if n=0 then .err 191 else .ok fd.offset)=.ok 0:=by kernel_rfl
@[simp] theorem fi88_0 (vs:List AVal):fieldR Tryz.prog 88 (.agg vs) 0=partR Tryz.prog 26 vs 0:=by kernel_rfl
@[simp] theorem fa88_1 (x:AVal):fieldAddrR Tryz.prog 88 x 1=addOff x 1:=by kernel_rfl
@[simp] theorem so88_1:((fieldOf Tryz.prog 88 1).bind fun fd=>(sizeR Tryz.prog fd.type).bind fun n=>if n=0 then .err 191 else .ok fd.offset)=.ok 1:=by kernel_rfl
@[simp] theorem fi88_1 (vs:List AVal):fieldR Tryz.prog 88 (.agg vs) 1=partR Tryz.prog 47 vs 1:=by kernel_rfl
@[simp] theorem fa88_2 (x:AVal):fieldAddrR Tryz.prog 88 x 2=addOff x 2:=by kernel_rfl
@[simp] theorem so88_2:((fieldOf Tryz.prog 88 2).bind fun fd=>(sizeR Tryz.prog fd.type).bind fun n=>if n=0 then .err 191 else .ok fd.offset)=.ok 2:=by kernel_rfl
@[simp] theorem fi88_2 (vs:List AVal):fieldR Tryz.prog 88 (.agg vs) 2=partR Tryz.prog 41 vs 2:=by kernel_rfl
@[simp] theorem fa90_0 (x:AVal):fieldAddrR Tryz.prog 90 x 0=addOff x 0:=by kernel_rfl
@[simp] theorem so90_0:((fieldOf Tryz.prog 90 0).bind fun fd=>(sizeR Tryz.prog fd.type).bind fun n=>if n=0 then .err 191 else .ok fd.offset)=.ok 0:=by kernel_rfl
@[simp] theorem fi90_0 (vs:List AVal):fieldR Tryz.prog 90 (.agg vs) 0=partR Tryz.prog 88 vs 0:=by kernel_rfl
@[simp] theorem fa90_1 (x:AVal):fieldAddrR Tryz.prog 90 x 1=addOff x 3:=by kernel_rfl
@[simp] theorem so90_1:((fieldOf Tryz.prog 90 1).bind fun fd=>(sizeR Tryz.prog fd.type).bind fun n=>if n=0 then .err 191 else .ok fd.offset)=.ok 3:=by kernel_rfl
@[simp] theorem fi90_1 (vs:List AVal):fieldR Tryz.prog 90 (.agg vs) 1=partR Tryz.prog 55 vs 3:=by kernel_rfl
@[simp] theorem fa90_2 (x:AVal):fieldAddrR Tryz.prog 90 x 2=addOff x 5:=by kernel_rfl
@[simp] theorem so90_2:((fieldOf Tryz.prog 90 2).bind fun fd=>(sizeR Tryz.prog fd.type).bind fun n=>if n=0 then .err 191 else .ok fd.offset)=.ok 5:=by kernel_rfl
@[simp] theorem fi90_2 (vs:List AVal):fieldR Tryz.prog 90 (.agg vs) 2=partR Tryz.prog 5 vs 5:=by kernel_rfl
@[simp] theorem fa104_0 (x:AVal):fieldAddrR Tryz.prog 104 x 0=addOff x 0:=by kernel_rfl
@[simp] theorem so104_0:((fieldOf Tryz.prog 104 0).bind fun fd=>(sizeR Tryz.prog fd.type).bind fun n=>if n=0 then .err 191 else .ok fd.offset)=.ok 0:=by kernel_rfl
@[simp] theorem fi104_0 (vs:List AVal):fieldR Tryz.prog 104 (.agg vs) 0=partR Tryz.prog 102 vs 0:=by kernel_rfl
@[simp] theorem fa104_1 (x:AVal):fieldAddrR Tryz.prog 104 x 1=addOff x 1:=by kernel_rfl
@[simp] theorem so104_1:((fieldOf Tryz.prog 104 1).bind fun fd=>(sizeR Tryz.prog fd.type).bind fun n=>if n=0 then .err 191 else .ok fd.offset)=.ok 1:=by kernel_rfl
@[simp] theorem fi104_1 (vs:List AVal):fieldR Tryz.prog 104 (.agg vs) 1=partR Tryz.prog 102 vs 1:=by kernel_rfl
@[simp] theorem fa157_0 (x:AVal):fieldAddrR Tryz.prog 157 x 0=addOff x 0:=by kernel_rfl
@[simp] theorem so157_0:((fieldOf Tryz.prog 157 0).bind fun fd=>(sizeR Tryz.prog fd.type).bind fun n=>if n=0 then .err 191 else .ok fd.offset)=.ok 0:=by kernel_rfl
@[simp] theorem fi157_0 (vs:List AVal):fieldR Tryz.prog 157 (.agg vs) 0=partR Tryz.prog 55 vs 0:=by kernel_rfl
@[simp] theorem fa157_1 (x:AVal):fieldAddrR Tryz.prog 157 x 1=addOff x 2:=by kernel_rfl
@[simp] theorem so157_1:((fieldOf Tryz.prog 157 1).bind fun fd=>(sizeR Tryz.prog fd.type).bind fun n=>if n=0 then .err 191 else .ok fd.offset)=.ok 2:=by kernel_rfl
@[simp] theorem fi157_1 (vs:List AVal):fieldR Tryz.prog 157 (.agg vs) 1=partR Tryz.prog 3 vs 2:=by kernel_rfl
@[simp] theorem fa168_0 (x:AVal):fieldAddrR Tryz.prog 168 x 0=addOff x 0:=by kernel_rfl
@[simp] theorem so168_0:((fieldOf Tryz.prog 168 0).bind fun fd=>(sizeR Tryz.prog fd.type).bind fun n=>if n=0 then .err 191 else .ok fd.offset)=.ok 0:=by kernel_rfl
@[simp] theorem fi168_0 (vs:List AVal):fieldR Tryz.prog 168 (.agg vs) 0=partR Tryz.prog 47 vs 0:=by kernel_rfl
@[simp] theorem fa168_1 (x:AVal):fieldAddrR Tryz.prog 168 x 1=addOff x 1:=by kernel_rfl
@[simp] theorem so168_1:((fieldOf Tryz.prog 168 1).bind fun fd=>(sizeR Tryz.prog fd.type).bind fun n=>if n=0 then .err 191 else .ok fd.offset)=.ok 1:=by kernel_rfl
@[simp] theorem fi168_1 (vs:List AVal):fieldR Tryz.prog 168 (.agg vs) 1=partR Tryz.prog 41 vs 1:=by kernel_rfl
@[simp] theorem fa168_2 (x:AVal):fieldAddrR Tryz.prog 168 x 2=addOff x 2:=by kernel_rfl
@[simp] theorem so168_2:((fieldOf Tryz.prog 168 2).bind fun fd=>(sizeR Tryz.prog fd.type).bind fun n=>if n=0 then .err 191 else .ok fd.offset)=.ok 2:=by kernel_rfl
@[simp] theorem fi168_2 (vs:List AVal):fieldR Tryz.prog 168 (.agg vs) 2=partR Tryz.prog 41 vs 2:=by kernel_rfl
@[simp] theorem fa178_0 (x:AVal):fieldAddrR Tryz.prog 178 x 0=addOff x 0:=by kernel_rfl
@[simp] theorem so178_0:((fieldOf Tryz.prog 178 0).bind fun fd=>(sizeR Tryz.prog fd.type).bind fun n=>if n=0 then .err 191 else .ok fd.offset)=.ok 0:=by kernel_rfl
@[simp] theorem fi178_0 (vs:List AVal):fieldR Tryz.prog 178 (.agg vs) 0=partR Tryz.prog 88 vs 0:=by kernel_rfl
@[simp] theorem fa178_1 (x:AVal):fieldAddrR Tryz.prog 178 x 1=addOff x 3:=by kernel_rfl
@[simp] theorem so178_1:((fieldOf Tryz.prog 178 1).bind fun fd=>(sizeR Tryz.prog fd.type).bind fun n=>if n=0 then .err 191 else .ok fd.offset)=.ok 3:=by kernel_rfl
@[simp] theorem fi178_1 (vs:List AVal):fieldR Tryz.prog 178 (.agg vs) 1=partR Tryz.prog 70 vs 3:=by kernel_rfl
@[simp] theorem fa196_0 (x:AVal):fieldAddrR Tryz.prog 196 x 0=addOff x 0:=by kernel_rfl
@[simp] theorem so196_0:((fieldOf Tryz.prog 196 0).bind fun fd=>(sizeR Tryz.prog fd.type).bind fun n=>if n=0 then .err 191 else .ok fd.offset)=.ok 0:=by kernel_rfl
@[simp] theorem fi196_0 (vs:List AVal):fieldR Tryz.prog 196 (.agg vs) 0=partR Tryz.prog 3 vs 0:=by kernel_rfl
@[simp] theorem fa196_1 (x:AVal):fieldAddrR Tryz.prog 196 x 1=addOff x 1:=by kernel_rfl
@[simp] theorem so196_1:((fieldOf Tryz.prog 196 1).bind fun fd=>(sizeR Tryz.prog fd.type).bind fun n=>if n=0 then .err 191 else .ok fd.offset)=.ok 1:=by kernel_rfl
@[simp] theorem fi196_1 (vs:List AVal):fieldR Tryz.prog 196 (.agg vs) 1=partR Tryz.prog 113 vs 1:=by kernel_rfl
@[simp] theorem fa196_2 (x:AVal):fieldAddrR Tryz.prog 196 x 2=addOff x 2:=by kernel_rfl
@[simp] theorem so196_2:((fieldOf Tryz.prog 196 2).bind fun fd=>(sizeR Tryz.prog fd.type).bind fun n=>if n=0 then .err 191 else .ok fd.offset)=.ok 2:=by kernel_rfl
@[simp] theorem fi196_2 (vs:List AVal):fieldR Tryz.prog 196 (.agg vs) 2=partR Tryz.prog 4 vs 2:=by kernel_rfl
@[simp] theorem fa202_0 (x:AVal):fieldAddrR Tryz.prog 202 x 0=addOff x 0:=by kernel_rfl
@[simp] theorem so202_0:((fieldOf Tryz.prog 202 0).bind fun fd=>(sizeR Tryz.prog fd.type).bind fun n=>if n=0 then .err 191 else .ok fd.offset)=.ok 0:=by kernel_rfl
@[simp] theorem fi202_0 (vs:List AVal):fieldR Tryz.prog 202 (.agg vs) 0=partR Tryz.prog 88 vs 0:=by kernel_rfl
@[simp] theorem fa202_1 (x:AVal):fieldAddrR Tryz.prog 202 x 1=addOff x 3:=by kernel_rfl
@[simp] theorem so202_1:((fieldOf Tryz.prog 202 1).bind fun fd=>(sizeR Tryz.prog fd.type).bind fun n=>if n=0 then .err 191 else .ok fd.offset)=.ok 3:=by kernel_rfl
@[simp] theorem fi202_1 (vs:List AVal):fieldR Tryz.prog 202 (.agg vs) 1=partR Tryz.prog 55 vs 3:=by kernel_rfl
@[simp] theorem fa202_2 (x:AVal):fieldAddrR Tryz.prog 202 x 2=addOff x 5:=by kernel_rfl
@[simp] theorem so202_2:((fieldOf Tryz.prog 202 2).bind fun fd=>(sizeR Tryz.prog fd.type).bind fun n=>if n=0 then .err 191 else .ok fd.offset)=.ok 5:=by kernel_rfl
@[simp] theorem fi202_2 (vs:List AVal):fieldR Tryz.prog 202 (.agg vs) 2=partR Tryz.prog 9 vs 5:=by kernel_rfl
@[simp] theorem fa202_3 (x:AVal):fieldAddrR Tryz.prog 202 x 3=addOff x 6:=by kernel_rfl
@[simp] theorem so202_3:((fieldOf Tryz.prog 202 3).bind fun fd=>(sizeR Tryz.prog fd.type).bind fun n=>if n=0 then .err 191 else .ok fd.offset)=.ok 6:=by kernel_rfl
@[simp] theorem fi202_3 (vs:List AVal):fieldR Tryz.prog 202 (.agg vs) 3=partR Tryz.prog 4 vs 6:=by kernel_rfl
@[simp] theorem fa209_0 (x:AVal):fieldAddrR Tryz.prog 209 x 0=addOff x 0:=by kernel_rfl
@[simp] theorem so209_0:((fieldOf Tryz.prog 209 0).bind fun fd=>(sizeR Tryz.prog fd.type).bind fun n=>if n=0 then .err 191 else .ok fd.offset)=.ok 0:=by kernel_rfl
@[simp] theorem fi209_0 (vs:List AVal):fieldR Tryz.prog 209 (.agg vs) 0=partR Tryz.prog 70 vs 0:=by kernel_rfl
@[simp] theorem fa209_1 (x:AVal):fieldAddrR Tryz.prog 209 x 1=addOff x 2:=by kernel_rfl
@[simp] theorem so209_1:((fieldOf Tryz.prog 209 1).bind fun fd=>(sizeR Tryz.prog fd.type).bind fun n=>if n=0 then .err 191 else .ok fd.offset)=.ok 2:=by kernel_rfl
@[simp] theorem fi209_1 (vs:List AVal):fieldR Tryz.prog 209 (.agg vs) 1=partR Tryz.prog 207 vs 2:=by kernel_rfl
@[simp] theorem fa220_0 (x:AVal):fieldAddrR Tryz.prog 220 x 0=addOff x 0:=by kernel_rfl
@[simp] theorem so220_0:((fieldOf Tryz.prog 220 0).bind fun fd=>(sizeR Tryz.prog fd.type).bind fun n=>if n=0 then .err 191 else .ok fd.offset)=.ok 0:=by kernel_rfl
@[simp] theorem fi220_0 (vs:List AVal):fieldR Tryz.prog 220 (.agg vs) 0=partR Tryz.prog 3 vs 0:=by kernel_rfl
@[simp] theorem fa220_1 (x:AVal):fieldAddrR Tryz.prog 220 x 1=addOff x 1:=by kernel_rfl
@[simp] theorem so220_1:((fieldOf Tryz.prog 220 1).bind fun fd=>(sizeR Tryz.prog fd.type).bind fun n=>if n=0 then .err 191 else .ok fd.offset)=.ok 1:=by kernel_rfl
@[simp] theorem fi220_1 (vs:List AVal):fieldR Tryz.prog 220 (.agg vs) 1=partR Tryz.prog 3 vs 1:=by kernel_rfl
@[simp] theorem fa220_2 (x:AVal):fieldAddrR Tryz.prog 220 x 2=addOff x 2:=by kernel_rfl
@[simp] theorem so220_2:((fieldOf Tryz.prog 220 2).bind fun fd=>(sizeR Tryz.prog fd.type).bind fun n=>if n=0 then .err 191 else .ok fd.offset)=.ok 2:=by kernel_rfl
@[simp] theorem fi220_2 (vs:List AVal):fieldR Tryz.prog 220 (.agg vs) 2=partR Tryz.prog 104 vs 2:=by kernel_rfl
@[simp] theorem fa259_0 (x:AVal):fieldAddrR Tryz.prog 259 x 0=addOff x 0:=by kernel_rfl
@[simp] theorem so259_0:((fieldOf Tryz.prog 259 0).bind fun fd=>(sizeR Tryz.prog fd.type).bind fun n=>if n=0 then .err 191 else .ok fd.offset)=.ok 0:=by kernel_rfl
@[simp] theorem fi259_0 (vs:List AVal):fieldR Tryz.prog 259 (.agg vs) 0=partR Tryz.prog 25 vs 0:=by kernel_rfl
@[simp] theorem fa259_1 (x:AVal):fieldAddrR Tryz.prog 259 x 1=addOff x 1:=by kernel_rfl
@[simp] theorem so259_1:((fieldOf Tryz.prog 259 1).bind fun fd=>(sizeR Tryz.prog fd.type).bind fun n=>if n=0 then .err 191 else .ok fd.offset)=.ok 1:=by kernel_rfl
@[simp] theorem fi259_1 (vs:List AVal):fieldR Tryz.prog 259 (.agg vs) 1=partR Tryz.prog 25 vs 1:=by kernel_rfl
@[simp] theorem fa259_2 (x:AVal):fieldAddrR Tryz.prog 259 x 2=addOff x 2:=by kernel_rfl
@[simp] theorem so259_2:((fieldOf Tryz.prog 259 2).bind fun fd=>(sizeR Tryz.prog fd.type).bind fun n=>if n=0 then .err 191 else .ok fd.offset)=.ok 2:=by kernel_rfl
@[simp] theorem fi259_2 (vs:List AVal):fieldR Tryz.prog 259 (.agg vs) 2=partR Tryz.prog 25 vs 2:=by kernel_rfl
@[simp] theorem fa259_3 (x:AVal):fieldAddrR Tryz.prog 259 x 3=addOff x 3:=by kernel_rfl
@[simp] theorem so259_3:((fieldOf Tryz.prog 259 3).bind fun fd=>(sizeR Tryz.prog fd.type).bind fun n=>if n=0 then .err 191 else .ok fd.offset)=.ok 3:=by kernel_rfl
@[simp] theorem fi259_3 (vs:List AVal):fieldR Tryz.prog 259 (.agg vs) 3=partR Tryz.prog 26 vs 3:=by kernel_rfl
@[simp] theorem fa259_4 (x:AVal):fieldAddrR Tryz.prog 259 x 4=addOff x 4:=by kernel_rfl
@[simp] theorem so259_4:((fieldOf Tryz.prog 259 4).bind fun fd=>(sizeR Tryz.prog fd.type).bind fun n=>if n=0 then .err 191 else .ok fd.offset)=.ok 4:=by kernel_rfl
@[simp] theorem fi259_4 (vs:List AVal):fieldR Tryz.prog 259 (.agg vs) 4=partR Tryz.prog 3 vs 4:=by kernel_rfl
@[simp] theorem fa259_5 (x:AVal):fieldAddrR Tryz.prog 259 x 5=addOff x 5:=by kernel_rfl
@[simp] theorem so259_5:((fieldOf Tryz.prog 259 5).bind fun fd=>(sizeR Tryz.prog fd.type).bind fun n=>if n=0 then .err 191 else .ok fd.offset)=.ok 5:=by kernel_rfl
@[simp] theorem fi259_5 (vs:List AVal):fieldR Tryz.prog 259 (.agg vs) 5=partR Tryz.prog 202 vs 5:=by kernel_rfl
@[simp] theorem fa259_6 (x:AVal):fieldAddrR Tryz.prog 259 x 6=addOff x 12:=by kernel_rfl
@[simp] theorem so259_6:((fieldOf Tryz.prog 259 6).bind fun fd=>(sizeR Tryz.prog fd.type).bind fun n=>if n=0 then .err 191 else .ok fd.offset)=.ok 12:=by kernel_rfl
@[simp] theorem fi259_6 (vs:List AVal):fieldR Tryz.prog 259 (.agg vs) 6=partR Tryz.prog 220 vs 12:=by kernel_rfl
@[simp] theorem bu50 (l:List (Nat×AVal)):buildR Tryz.prog 50 l=(fillR (fun i=>[(0,1),(1,1),(2,1),(3,1),(4,1)][i]?) [.int .u16 0,.int .u32 0,.int .u64 0,.int .i64 0,.nils] l).bind fun cs=>.ok (.agg cs):=by kernel_rfl
@[simp] theorem bu53 (l:List (Nat×AVal)):buildR Tryz.prog 53 l=(fillR (fun i=>[(0,1),(1,1),(2,1),(3,1),(4,1)][i]?) [.int .i64 0,.int .i64 0,.int .i64 0,.int .i64 0,.str []] l).bind fun cs=>.ok (.agg cs):=by kernel_rfl
@[simp] theorem bu55 (l:List (Nat×AVal)):buildR Tryz.prog 55 l=(fillR (fun i=>[(0,1),(1,1)][i]?) [.int .u16 0,.int .u32 0] l).bind fun cs=>.ok (.agg cs):=by kernel_rfl
@[simp] theorem bu58 (l:List (Nat×AVal)):buildR Tryz.prog 58 l=(fillR (fun i=>[(0,1),(1,2),(3,1),(4,1),(5,1),(6,1)][i]?) [.int .i64 0,.int .u16 0,.int .u32 0,.int .u32 0,.str [],.nils,.int .u32 0] l).bind fun cs=>.ok (.agg cs):=by kernel_rfl
@[simp] theorem bu64 (l:List (Nat×AVal)):buildR Tryz.prog 64 l=(fillR (fun i=>[(0,1),(1,1),(2,1),(3,1),(4,1)][i]?) [.int .i64 0,.int .i64 0,.int .i64 0,.int .i64 0,.str []] l).bind fun cs=>.ok (.agg cs):=by kernel_rfl
@[simp] theorem bu70 (l:List (Nat×AVal)):buildR Tryz.prog 70 l=(fillR (fun i=>[(0,1),(1,1)][i]?) [.int .u16 0,.int .u32 0] l).bind fun cs=>.ok (.agg cs):=by kernel_rfl
@[simp] theorem bu88 (l:List (Nat×AVal)):buildR Tryz.prog 88 l=(fillR (fun i=>[(0,1),(1,1),(2,1)][i]?) [.int .u64 0,.int .u16 0,.int .u32 0] l).bind fun cs=>.ok (.agg cs):=by kernel_rfl
@[simp] theorem bu90 (l:List (Nat×AVal)):buildR Tryz.prog 90 l=(fillR (fun i=>[(0,3),(3,2),(5,1),(6,1)][i]?) [.int .u64 0,.int .u16 0,.int .u32 0,.int .u16 0,.int .u32 0,.int .u8 0,.bool false] l).bind fun cs=>.ok (.agg cs):=by kernel_rfl
@[simp] theorem bu104 (l:List (Nat×AVal)):buildR Tryz.prog 104 l=(fillR (fun i=>[(0,1),(1,1)][i]?) [.cplx .f64 0 0,.cplx .f64 0 0] l).bind fun cs=>.ok (.agg cs):=by kernel_rfl
@[simp] theorem bu157 (l:List (Nat×AVal)):buildR Tryz.prog 157 l=(fillR (fun i=>[(0,2),(2,1)][i]?) [.int .u16 0,.int .u32 0,.int .i64 0] l).bind fun cs=>.ok (.agg cs):=by kernel_rfl
@[simp] theorem bu168 (l:List (Nat×AVal)):buildR Tryz.prog 168 l=(fillR (fun i=>[(0,1),(1,1),(2,1)][i]?) [.int .u16 0,.int .u32 0,.int .u32 0] l).bind fun cs=>.ok (.agg cs):=by kernel_rfl
@[simp] theorem bu178 (l:List (Nat×AVal)):buildR Tryz.prog 178 l=(fillR (fun i=>[(0,3),(3,2)][i]?) [.int .u64 0,.int .u16 0,.int .u32 0,.int .u16 0,.int .u32 0] l).bind fun cs=>.ok (.agg cs):=by kernel_rfl
@[simp] theorem bu196 (l:List (Nat×AVal)):buildR Tryz.prog 196 l=(fillR (fun i=>[(0,1),(1,1),(2,1)][i]?) [.int .i64 0,.nils,.bool false] l).bind fun cs=>.ok (.agg cs):=by kernel_rfl
@[simp] theorem bu202 (l:List (Nat×AVal)):buildR Tryz.prog 202 l=(fillR (fun i=>[(0,3),(3,2),(5,1),(6,1)][i]?) [.int .u64 0,.int .u16 0,.int .u32 0,.int .u16 0,.int .u32 0,.str [],.bool false] l).bind fun cs=>.ok (.agg cs):=by kernel_rfl
@[simp] theorem bu209 (l:List (Nat×AVal)):buildR Tryz.prog 209 l=(fillR (fun i=>[(0,2),(2,1)][i]?) [.int .u16 0,.int .u32 0,.nils] l).bind fun cs=>.ok (.agg cs):=by kernel_rfl
@[simp] theorem bu220 (l:List (Nat×AVal)):buildR Tryz.prog 220 l=(fillR (fun i=>[(0,1),(1,1),(2,2)][i]?) [.int .i64 0,.int .i64 0,.cplx .f64 0 0,.cplx .f64 0 0] l).bind fun cs=>.ok (.agg cs):=by kernel_rfl
@[simp] theorem bu259 (l:List (Nat×AVal)):buildR Tryz.prog 259 l=(fillR (fun i=>[(0,1),(1,1),(2,1),(3,1),(4,1),(5,7),(12,4)][i]?) [.nilp,.nilp,.nilp,.int .u64 0,.int .i64 0,.int .u64 0,.int .u16 0,.int .u32 0,.int .u16 0,.int .u32 0,.str [],.bool false,.int .i64 0,.int .i64 0,.cplx .f64 0 0,.cplx .f64 0 0] l).bind fun cs=>.ok (.agg cs):=by kernel_rfl
theorem inf45:∃i,infoR Tryz.prog 64=.ok i∧i.size=5∧i.bytes=48:=⟨_,rfl,by kernel_rfl,by kernel_rfl⟩
@[simp] theorem ap45 {ro} (h:AHeap) (xt:Option Nat) (s x:AVal):appendR (cfgR ro) h 45 xt s x=mk2 (notMake Tryz.prog xt) (appMakeR (cfgR ro) h 45 xt s x) ((lenA x).bind fun n=>(readSl (cfgR ro) h 5 n x).bind fun new=>appCore 5 48 h s n new):=by
 obtain⟨i,h1,h2,h3⟩:=inf45
 exact append_core xt s x el45 h1 zc64 h2 h3 (by decide) (by decide) rfl
theorem inf56:∃i,infoR Tryz.prog 157=.ok i∧i.size=3∧i.bytes=16:=⟨_,rfl,by kernel_rfl,by kernel_rfl⟩
@[simp] theorem ap56 {ro} (h:AHeap) (xt:Option Nat) (s x:AVal):appendR (cfgR ro) h 56 xt s x=mk2 (notMake Tryz.prog xt) (appMakeR (cfgR ro) h 56 xt s x) ((lenA x).bind fun n=>(readSl (cfgR ro) h 3 n x).bind fun new=>appCore 3 16 h s n new):=by
 obtain⟨i,h1,h2,h3⟩:=inf56
 exact append_core xt s x el56 h1 zc157 h2 h3 (by decide) (by decide) rfl
theorem inf113:∃i,infoR Tryz.prog 55=.ok i∧i.size=2∧i.bytes=8:=⟨_,rfl,by kernel_rfl,by kernel_rfl⟩
@[simp] theorem ap113 {ro} (h:AHeap) (xt:Option Nat) (s x:AVal):appendR (cfgR ro) h 113 xt s x=mk2 (notMake Tryz.prog xt) (appMakeR (cfgR ro) h 113 xt s x) ((lenA x).bind fun n=>(readSl (cfgR ro) h 2 n x).bind fun new=>appCore 2 8 h s n new):=by
 obtain⟨i,h1,h2,h3⟩:=inf113
 exact append_core xt s x el113 h1 zc55 h2 h3 (by decide) (by decide) rfl
theorem inf162:∃i,infoR Tryz.prog 5=.ok i∧i.size=1∧i.bytes=1:=⟨_,rfl,by kernel_rfl,by kernel_rfl⟩
@[simp] theorem ap162 {ro} (h:AHeap) (xt:Option Nat) (s x:AVal):appendR (cfgR ro) h 162 xt s x=mk2 (notMake Tryz.prog xt) (appMakeR (cfgR ro) h 162 xt s x) ((lenA x).bind fun n=>(readSl (cfgR ro) h 1 n x).bind fun new=>appCore 1 1 h s n new):=by
 obtain⟨i,h1,h2,h3⟩:=inf162
 exact append_core xt s x el162 h1 zc5 h2 h3 (by decide) (by decide) rfl
theorem inf169:∃i,infoR Tryz.prog 157=.ok i∧i.size=3∧i.bytes=16:=⟨_,rfl,by kernel_rfl,by kernel_rfl⟩
@[simp] theorem ap169 {ro} (h:AHeap) (xt:Option Nat) (s x:AVal):appendR (cfgR ro) h 169 xt s x=mk2 (notMake Tryz.prog xt) (appMakeR (cfgR ro) h 169 xt s x) ((lenA x).bind fun n=>(readSl (cfgR ro) h 3 n x).bind fun new=>appCore 3 16 h s n new):=by
 obtain⟨i,h1,h2,h3⟩:=inf169
 exact append_core xt s x el169 h1 zc157 h2 h3 (by decide) (by decide) rfl
theorem inf207:∃i,infoR Tryz.prog 70=.ok i∧i.size=2∧i.bytes=8:=⟨_,rfl,by kernel_rfl,by kernel_rfl⟩
@[simp] theorem ap207 {ro} (h:AHeap) (xt:Option Nat) (s x:AVal):appendR (cfgR ro) h 207 xt s x=mk2 (notMake Tryz.prog xt) (appMakeR (cfgR ro) h 207 xt s x) ((lenA x).bind fun n=>(readSl (cfgR ro) h 2 n x).bind fun new=>appCore 2 8 h s n new):=by
 obtain⟨i,h1,h2,h3⟩:=inf207
 exact append_core xt s x el207 h1 zc70 h2 h3 (by decide) (by decide) rfl
theorem inf210:∃i,infoR Tryz.prog 178=.ok i∧i.size=5∧i.bytes=24:=⟨_,rfl,by kernel_rfl,by kernel_rfl⟩
@[simp] theorem ap210 {ro} (h:AHeap) (xt:Option Nat) (s x:AVal):appendR (cfgR ro) h 210 xt s x=mk2 (notMake Tryz.prog xt) (appMakeR (cfgR ro) h 210 xt s x) ((lenA x).bind fun n=>(readSl (cfgR ro) h 5 n x).bind fun new=>appCore 5 24 h s n new):=by
 obtain⟨i,h1,h2,h3⟩:=inf210
 exact append_core xt s x el210 h1 zc178 h2 h3 (by decide) (by decide) rfl
theorem inf270:∃i,infoR Tryz.prog 25=.ok i∧i.size=1∧i.bytes=8:=⟨_,rfl,by kernel_rfl,by kernel_rfl⟩
@[simp] theorem ap270 {ro} (h:AHeap) (xt:Option Nat) (s x:AVal):appendR (cfgR ro) h 270 xt s x=mk2 (notMake Tryz.prog xt) (appMakeR (cfgR ro) h 270 xt s x) ((lenA x).bind fun n=>(readSl (cfgR ro) h 1 n x).bind fun new=>appCore 1 8 h s n new):=by
 obtain⟨i,h1,h2,h3⟩:=inf270
 exact append_core xt s x el270 h1 zc25 h2 h3 (by decide) (by decide) rfl
@[simp] theorem eq4 {ro} (h:AHeap) (x y:AVal):eqIn (cfgR ro) h 10000 4 x y=eqFlat Tryz.prog h .bool x y:=by kernel_rfl
theorem eq25 {ro} (h:AHeap) (x y:AVal):eqIn (cfgR ro) h 10000 25 x y=eqFlat Tryz.prog h (.pointer 259) x y:=by kernel_rfl
@[simp] theorem en25 {ro} (h:AHeap):eqIn (cfgR ro) h 10000 25 .nilp .nilp=.ok true:=by rw [eq25];rfl
@[simp] theorem ep25 {ro} (h:AHeap) (o f:Nat):eqIn (cfgR ro) h 10000 25 (.ptr o f) .nilp=.ok false:=by rw [eq25];rfl
@[simp] theorem eq25_np {ro} (h:AHeap) (o f:Nat):eqIn (cfgR ro) h 10000 25 .nilp (.ptr o f)=.ok false:=by rw [eq25];rfl
@[simp] theorem eq25_pp {ro} (h:AHeap) (o f o1 f1:Nat):eqIn (cfgR ro) h 10000 25 (.ptr o f) (.ptr o1 f1)=ptrEq h o f o1 f1:=by
 have hz:sizeNonzero Tryz.prog 259=true:=by kernel_rfl
 rw [eq25]
 show(if sizeNonzero Tryz.prog 259=true then eq1 h (.ptr o f) (.ptr o1 f1)else Res.err 65)=_
 rw [if_pos hz];rfl
@[simp] theorem eq29 {ro} (h:AHeap) (x y:AVal):eqIn (cfgR ro) h 10000 29 x y=eqFlat Tryz.prog h (.map 47 270) x y:=by kernel_rfl
@[simp] theorem eq32 {ro} (h:AHeap) (x y:AVal):eqIn (cfgR ro) h 10000 32 x y=eqFlat Tryz.prog h (.map 55 210) x y:=by kernel_rfl
@[simp] theorem eq35 {ro} (h:AHeap) (x y:AVal):eqIn (cfgR ro) h 10000 35 x y=eqFlat Tryz.prog h (.map 70 194) x y:=by kernel_rfl
@[simp] theorem eq113 {ro} (h:AHeap) (x y:AVal):eqIn (cfgR ro) h 10000 113 x y=eqFlat Tryz.prog h (.slice 55) x y:=by kernel_rfl
theorem eq194 {ro} (h:AHeap) (x y:AVal):eqIn (cfgR ro) h 10000 194 x y=eqFlat Tryz.prog h (.pointer 196) x y:=by kernel_rfl
@[simp] theorem en194 {ro} (h:AHeap):eqIn (cfgR ro) h 10000 194 .nilp .nilp=.ok true:=by rw [eq194];rfl
@[simp] theorem ep194 {ro} (h:AHeap) (o f:Nat):eqIn (cfgR ro) h 10000 194 (.ptr o f) .nilp=.ok false:=by rw [eq194];rfl
@[simp] theorem eq194_np {ro} (h:AHeap) (o f:Nat):eqIn (cfgR ro) h 10000 194 .nilp (.ptr o f)=.ok false:=by rw [eq194];rfl
@[simp] theorem eq194_pp {ro} (h:AHeap) (o f o1 f1:Nat):eqIn (cfgR ro) h 10000 194 (.ptr o f) (.ptr o1 f1)=ptrEq h o f o1 f1:=by
 have hz:sizeNonzero Tryz.prog 196=true:=by kernel_rfl
 rw [eq194]
 show(if sizeNonzero Tryz.prog 196=true then eq1 h (.ptr o f) (.ptr o1 f1)else Res.err 65)=_
 rw [if_pos hz];rfl
theorem eq206 {ro} (h:AHeap) (x y:AVal):eqIn (cfgR ro) h 10000 206 x y=eqFlat Tryz.prog h (.pointer 209) x y:=by kernel_rfl
@[simp] theorem en206 {ro} (h:AHeap):eqIn (cfgR ro) h 10000 206 .nilp .nilp=.ok true:=by rw [eq206];rfl
@[simp] theorem ep206 {ro} (h:AHeap) (o f:Nat):eqIn (cfgR ro) h 10000 206 (.ptr o f) .nilp=.ok false:=by rw [eq206];rfl
@[simp] theorem eq206_np {ro} (h:AHeap) (o f:Nat):eqIn (cfgR ro) h 10000 206 .nilp (.ptr o f)=.ok false:=by rw [eq206];rfl
@[simp] theorem eq206_pp {ro} (h:AHeap) (o f o1 f1:Nat):eqIn (cfgR ro) h 10000 206 (.ptr o f) (.ptr o1 f1)=ptrEq h o f o1 f1:=by
 have hz:sizeNonzero Tryz.prog 209=true:=by kernel_rfl
 rw [eq206]
 show(if sizeNonzero Tryz.prog 209=true then eq1 h (.ptr o f) (.ptr o1 f1)else Res.err 65)=_
 rw [if_pos hz];rfl
@[simp] theorem eq210 {ro} (h:AHeap) (x y:AVal):eqIn (cfgR ro) h 10000 210 x y=eqFlat Tryz.prog h (.slice 178) x y:=by kernel_rfl
end Go.Proofs.YtlhlbamcgopiiaaGreatDoor
